/- The contracts of package nvm, fourth part: lines that are loose, lines on their way. -/
import Derived.Test.YtecdalmnndalgaaProg
import Derived.WalkKit
import Derived.WalkLawsBesides
import Derived.WalkSpells
import Derived.Outline
import Derived.Lib.Hide
import Derived.Deep.LoopGhost
import Derived.Laws.BitsLemmas
import Derived.Laws.BitsAllLaws
import Derived.Deep.RegionWith
import Derived.Deep.QuietTactic
import Derived.BigQuiet
import Derived.Test.YtecdalmnndalgaaGDurableScript1
import Derived.Test.YtecdalmnndalgaaGDurableScript2
namespace Go.Proofs.Ytecdalmnndalgaa
open Go.RowKit Go.Proofs.FuMem Go.Proofs.FuNvm Go.Proofs.FuCode
set_option maxRecDepth 100000
theorem cellSize : (Try.prog.info? 94).map (·.size) = some 193 := by kernel_rfl
theorem lineGuard : Try.prog.eqGuardType Try.prog.depth 92 = false := by kernel_rfl
theorem neq_line (l k : List UInt8) (hl : l.length = 64) (hk : k.length = 64) (w : World) : (binOp .neq 92 (arrV l) (arrV k)).run Try.prog w = .ok (.bool (l != k)) w := by
  obtain ⟨i0, hi, hz0, hz1, hz2⟩ := info_parts Try.byteInfo
  exact run_neq_arr Try.underlying92 Try.underlying5 i0 hi hz1 l k hl hk w
theorem line_new (w : World) (x : Line) (h : x.Ok) : Bs (w.alloc (.cells (cellsOf x).toArray 94)) (some ⟨w.heap.size, 0, none⟩) x.now.length x.now ∧ Bs (w.alloc (.cells (cellsOf x).toArray 94)) (some ⟨w.heap.size, 64, none⟩) x.kept.length x.kept ∧
    (w.alloc (.cells (cellsOf x).toArray 94)).cell? ⟨w.heap.size, 192, none⟩ = some (.bool x.sent) := by
  obtain ⟨h1, h2, h3⟩ := h
  have hb := Blk.new w 94 (cellsOf x).toArray
  have hlen : (cellsOf x).length = 193 := cellsOf_length ⟨h1, h2, h3⟩
  refine ⟨Sl.of_blk hb 0 ?_ (by simp; omega), Sl.of_blk hb 64 ?_ (by simp; omega), ?_⟩
  · unfold cellsOf
    rw [List.drop_zero, List.append_assoc, List.append_assoc]
    exact (List.take_left' (by simp)).symm
  · unfold cellsOf
    have e : (x.now.map B ++ x.kept.map B ++ x.way.map B ++ [Value.bool x.sent]).drop 64 = x.kept.map B ++ (x.way.map B ++ [.bool x.sent]) := by
      rw [List.append_assoc, List.append_assoc]
      exact List.drop_left' (by simp [h1])
    rw [e]
    exact (List.take_left' (by simp)).symm
  · rw [hb.cell, List.getElem?_toArray]
    unfold cellsOf
    rw [List.getElem?_append_right (by simp [h1, h2, h3])]
    simp [h1, h2, h3]
theorem cell_loose (x : Line) (h : x.Ok) (w : World) :
    Calls Try.prog 73 #[.agg (cellsOf x).toArray] w fun e w' => e = .returned (.bool (x.now != x.kept)) ∧ Only [] w w' := by
  have hln := line_new w x h
  have hq := neq_line x.now x.kept h.1 h.2.1
  have hg := fun (a b : Operand) (w : World) => eqGuard_arr (P := Try.prog) lineGuard .neq a b x.now x.kept w
  have s1 : (Try.prog.info? 92).map (·.size) = some x.now.length := by rw [h.1]; exact lineSize
  have s2 : (Try.prog.info? 92).map (·.size) = some x.kept.length := by rw [h.2.1]; exact lineSize
  have HL := Lib.hid hln
  have S1 := Lib.hid s1
  have S2 := Lib.hid s2
  clear hln s1 s2 h
  generalize cellsOf x = cs at *
  go_enter Try.func73, Try.ntmps73
  go_wp2_with (first
    | ((with_reducible show wpList _ _ _ (Oper.mk (some 4) _ _ _ _ _ :: _) _ _); refine wpList_load_arr rfl 92 (.tmp 3) rfl w.heap.size 0 rfl x.now HL.out.1 64 5 Try.underlying92 S1.out ?_)
    | ((with_reducible show wpList _ _ _ (Oper.mk (some 6) _ _ _ _ _ :: _) _ _); refine wpList_load_arr rfl 92 (.tmp 5) rfl w.heap.size 64 rfl x.kept HL.out.2.1 64 5 Try.underlying92 S2.out ?_))
  go_ret
  exact ⟨rfl, (Only.refl _ _).alloc _⟩
/-- the lines of which something holds, rising -/
def those (p : Line → Bool) (L : List Line) (i : Nat) : List Int := ((List.range i).filter fun j => (L[j]?.map p).getD false).map fun (j : Nat) => (j : Int)
theorem those_succ (p : Line → Bool) (L : List Line) (i : Nat) (hi : i < L.length) : those p L (i + 1) = if p L[i] = true then those p L i ++ [(i : Int)] else those p L i := by
  unfold those
  rw [List.range_succ, List.filter_append, List.map_append]
  by_cases h : p L[i] = true
  · rw [if_pos h]
    simp [List.getElem?_eq_getElem hi, h]
  · rw [if_neg h]
    simp [List.getElem?_eq_getElem hi, h]
theorem those_length (p : Line → Bool) (L : List Line) (i : Nat) : (those p L i).length ≤ i := by
  unfold those
  rw [List.length_map]
  exact Nat.le_trans (List.length_filter_le _ _) (by simp)
/-- a whole line by value -/
theorem wpList_load_line {P : Program} {w : World} {ops : Array Oper} {rest : List Oper} {o : Oper} {a : Act} {Q : Exit → Act → World → Prop} (hgd : o.guard = none) (T : TypeId) (y : Operand) (ho : o.op = .load T y) (b off : Nat) (hx : a.eval y = .pointer (some ⟨b, off, none⟩)) (x : Line)
    (hc : Sl w (some ⟨b, off, none⟩) 193 (cellsOf x)) (d : TypeDesc) (hu : P.underlying T = some d) (hd : d.isRow = true) (hi : (P.info? T).map (·.size) = some (cellsOf x).length)
    (h : wpList P ops Q rest (a.put o.dst (.agg (cellsOf x).toArray)) w) : wpList P ops Q (o :: rest) a w :=
  wpList_load_mid hgd T y ho b off hx (cellsOf x) d (Sl.range hc) hu hd hi h
theorem IsDev.whole {tD tC : TypeId} {w : World} {g cb cap : Nat} {D : Dev} (h : IsDev tD tC w g cb cap D) {i : Nat} (hi : i < D.lines.length) : Sl w (some ⟨cb, i * 193, none⟩) 193 (cellsOf D.lines[i]) := by
  have := h.sl hi (o := 0) (m := 193) (by omega)
  rw [List.drop_zero, List.take_of_length_le (by rw [cellsOf_length (h.ok.get hi)]; exact Nat.le_refl _)] at this
  exact this
set_option maxHeartbeats 1000000 in
theorem nvm_lines_loose (g cb cap : Nat) (D : Dev) (w : World) (hd : DevAt w g cb cap D) :
    Calls Try.prog 72 #[.pointer (some ⟨g, 0, none⟩), .func (.func 73) #[] #[]] w fun e w' => ∃ v, e = .returned v ∧ MadeI w (those (fun x => x.now != x.kept) D.lines D.lines.length) v w' := by
  have hf := hd.few
  have HD := Lib.hid hd
  have HL := Lib.hid (nvm_Lines g cb cap D w hd)
  clear hd
  obtain ⟨m, hm⟩ : ∃ m, m = D.lines.length := ⟨_, rfl⟩
  rw [← hm] at hf HL ⊢
  have HM := Lib.hid hm
  clear hm
  obtain ⟨i0, hi, hz0, hz1, hz2⟩ := info_parts Try.intInfo
  have HI := Lib.hid hi
  have HZ0 := Lib.hid hz0
  have HZ1 := Lib.hid hz1
  have HZ2 := Lib.hid hz2
  clear hi hz0 hz1 hz2
  go_enter Try.func72, Try.ntmps72
  go_wp2_with fail
  refine (HL.out).mono ?_
  rintro e w' ⟨rfl, rfl⟩
  go_wp2
  go_loopw [5, 6, 9] (fun v _ i wr => ∃ (k n : Nat), k ≤ m ∧ i = .int .i64 k ∧ n = (those (fun x => x.now != x.kept) D.lines k).length ∧ wr.ownsRow w.heap.size 3 1 v n ((those (fun x => x.now != x.kept) D.lines k).map (.int .i64)) ∧ Only [] w wr) (fun _ _ i _ => m - (intOf i).toNat)
  case atStart => exact ⟨0, 0, Nat.zero_le _, rfl, rfl, own_nil _ _ _ _, Only.refl _ _⟩
  case round =>
    obtain ⟨k, n, hk, rfl, hn, ho, on⟩ := hrel
    by_cases hlt : k < m
    · have hkl : k < D.lines.length := by rw [← HM.out]; exact hlt
      have hdr := HD.out.only0 on
      have hc0 : wr.cell? ⟨g, 0, none⟩ = some (.slice (some ⟨cb, 0, none⟩) m cap) := by
        rw [hdr.cell 0, HM.out]
        rfl
      have hwh := IsDev.whole hdr hkl
      have hsz : (Try.prog.info? 94).map (·.size) = some (cellsOf D.lines[k]).length := by rw [cellsOf_length (hdr.ok.get hkl)]; exact cellSize
      have hok := hdr.ok.get hkl
      have HSZ := Lib.hid hsz
      have HOK := Lib.hid hok
      have HO := Lib.hid ho
      have ON := Lib.hid on
      have HN := Lib.hid hn
      clear hdr hsz hok ho on hn
      have hnk := those_length (fun x => x.now != x.kept) D.lines k
      by_cases hp : ((D.lines[k]).now != (D.lines[k]).kept) = true
      · have hsu := those_succ (fun x => x.now != x.kept) D.lines k hkl
        rw [if_pos hp] at hsu
        have HSU := Lib.hid hsu
        clear hsu
        go_wp2_with ((with_reducible show wpList _ _ _ (Oper.mk (some 19) _ _ _ _ _ :: _) _ _); refine wpList_load_line rfl 94 (.tmp 18) rfl cb (k * 193) rfl (D.lines[k]) hwh _ Try.underlying94 rfl HSZ.out ?_)
        refine (cell_loose (D.lines[k]) HOK.out wr).mono ?_
        rintro e w1 ⟨rfl, o1⟩
        have hown := own_only HO.out o1 (by simp)
        obtain ⟨A', c', w', hr, ho2, hs2, on2⟩ := append_own (P := Try.prog) (w1.alloc (.cells #[.int .i64 (k : Int)] 3)) ((ON.out.trans0 o1).alloc _) 42 42 3 i0 _ 8 Try.underlying42 HI.out HZ0.out HZ1.out HZ2.out rfl _ n _ (hown.alloc _) (some ⟨w1.heap.size, 0, none⟩) 1 1 [.int .i64 (k : Int)] (cell_new1 _ _ _) (ints_new1 _ _) (by have := HN.out; unfold maxLen; omega) (by have := HN.out; omega)
        rw [show (those (fun x => x.now != x.kept) D.lines k).map (Value.int .i64) ++ [.int .i64 (k : Int)] = (those (fun x => x.now != x.kept) D.lines (k + 1)).map (.int .i64) by rw [HSU.out]; simp] at ho2
        have H2 := Lib.hid ho2
        have N2 := Lib.hid on2
        clear hown ho2 hs2 on2 o1
        go_wp2_with (at_builtin; refine wpList_append_run _ rfl (.tmp 21) (.tmp 23) 42 rfl _ _ rfl rfl _ _ hr ?_)
        go_roundw
        case rel => exact ⟨k + 1, n + 1, by omega, by go_num, by rw [HSU.out, List.length_append, HN.out]; rfl, H2.out, N2.out⟩
        case measure => simp [intOf]; omega
      · have hp0 : ((D.lines[k]).now != (D.lines[k]).kept) = false := by simpa using hp
        have hsu := those_succ (fun x => x.now != x.kept) D.lines k hkl
        rw [if_neg hp] at hsu
        have HSU := Lib.hid hsu
        clear hsu hp
        go_wp2_with ((with_reducible show wpList _ _ _ (Oper.mk (some 19) _ _ _ _ _ :: _) _ _); refine wpList_load_line rfl 94 (.tmp 18) rfl cb (k * 193) rfl (D.lines[k]) hwh _ Try.underlying94 rfl HSZ.out ?_)
        refine (cell_loose (D.lines[k]) HOK.out wr).mono ?_
        rintro e w1 ⟨rfl, o1⟩
        have hown := own_only HO.out o1 (by simp)
        have H2 := Lib.hid hown
        have N2 := Lib.hid (ON.out.trans0 o1)
        clear hown o1
        go_wp2
        go_roundw
        case rel => exact ⟨k + 1, n, by omega, by go_num, by rw [HSU.out]; exact HN.out, by rw [HSU.out]; exact H2.out, N2.out⟩
        case measure => simp [intOf]; omega
    · obtain rfl : k = m := by omega
      obtain ⟨A', c', rfl, _, _⟩ := own_slice ho
      have H1 := Lib.hid ho
      have H2 := Lib.hid on
      clear ho on
      go_wp2
      go_ret
      exact ⟨.slice A' n c', rfl, madeI_own hn.symm H1.out H2.out⟩
theorem nvm_Loose (g cb cap : Nat) (D : Dev) (w : World) (hd : DevAt w g cb cap D) :
    Calls Try.prog 59 #[.pointer (some ⟨g, 0, none⟩)] w fun e w' => ∃ v, e = .returned v ∧ MadeI w (those (fun x => x.now != x.kept) D.lines D.lines.length) v w' := by
  have H := Lib.hid (nvm_lines_loose g cb cap D w hd)
  clear hd
  go_enter Try.func59, Try.ntmps59
  go_wp2_with fail
  refine (H.out).mono ?_
  rintro e w1 ⟨_, rfl, A1, c1, rfl, m1, o1⟩
  have M1 := Lib.hid m1
  have O1 := Lib.hid o1
  clear m1 o1
  go_wp2
  go_ret
  exact ⟨.slice A1 _ c1, rfl, A1, c1, rfl, M1.out, O1.out⟩
end Go.Proofs.Ytecdalmnndalgaa
/- Classes and slabs in plain Lean. No program in sight. -/
namespace Go.Proofs.FuClass
def span (c : Int) : Nat := if c = 0 then 1 else if c = 1 then 2 else if c = 2 then 4 else if c = 3 then 8 else 0
def capOf (c : Int) : Int := if span c = 0 then 0 else 28 + 63 * ((span c : Int) - 1)
def need (n : Int) : Int := if n < 0 then -1 else if n ≤ 28 then 0 else if n ≤ 91 then 1 else if n ≤ 217 then 2 else if n ≤ 469 then 3 else -1
def slab (k : Int) : Int := if k < 0 ∨ 31 < k then -1 else 2 + 8 * k
def slabOf (line : Int) : Int := if line < 2 ∨ 258 ≤ line then -1 else (line - 2) / 8
def startsTo (f : Int) (s i : Nat) : List Int := (List.range i).map fun j => f + ((j * s : Nat) : Int)
def starts (k c : Int) : List Int := if span c = 0 ∨ slab k < 0 then [] else startsTo (slab k) (span c) (8 / span c)
def home (line c : Int) : Bool := decide (line ∈ starts (slabOf line) c)
theorem span_cases (c : Int) : (c = 0 ∧ span c = 1) ∨ (c = 1 ∧ span c = 2) ∨ (c = 2 ∧ span c = 4) ∨ (c = 3 ∧ span c = 8) ∨ ((c < 0 ∨ 3 < c) ∧ span c = 0) := by
  unfold span
  by_cases h0 : c = 0
  · simp [h0]
  · by_cases h1 : c = 1
    · simp [h1]
    · by_cases h2 : c = 2
      · simp [h2]
      · by_cases h3 : c = 3
        · simp [h3]
        · simp [h0, h1, h2, h3]
          omega
theorem span_le (c : Int) : span c ≤ 8 := by have := span_cases c; omega
theorem capOf_val (c : Int) : (span c = 0 ∧ capOf c = 0) ∨ (span c = 1 ∧ capOf c = 28) ∨ (span c = 2 ∧ capOf c = 91) ∨ (span c = 4 ∧ capOf c = 217) ∨ (span c = 8 ∧ capOf c = 469) := by
  unfold capOf
  have := span_cases c
  split <;> omega
theorem capOf_bd (c : Int) : 0 ≤ capOf c ∧ capOf c ≤ 469 := by have := capOf_val c; omega
theorem capOf0 : capOf 0 = 28 := by decide
theorem capOf1 : capOf 1 = 91 := by decide
theorem capOf2 : capOf 2 = 217 := by decide
theorem capOf3 : capOf 3 = 469 := by decide
/-- the search: no class below k holds so much -/
theorem need_of {n : Int} {k : Nat} (hk : k < 4) (h0 : 0 ≤ n) (hno : ∀ j : Nat, j < k → capOf j < n) (h : n ≤ capOf k) : need n = k := by
  have c0 : capOf ((0 : Nat) : Int) = 28 := capOf0
  have c1 : capOf ((1 : Nat) : Int) = 91 := capOf1
  have c2 : capOf ((2 : Nat) : Int) = 217 := capOf2
  have c3 : capOf ((3 : Nat) : Int) = 469 := capOf3
  have e0 := hno 0
  have e1 := hno 1
  have e2 := hno 2
  rw [c0] at e0
  rw [c1] at e1
  rw [c2] at e2
  unfold need
  obtain rfl | rfl | rfl | rfl : k = 0 ∨ k = 1 ∨ k = 2 ∨ k = 3 := by omega
  · rw [c0] at h
    repeat' split
    all_goals omega
  · rw [c1] at h
    repeat' split
    all_goals omega
  · rw [c2] at h
    repeat' split
    all_goals omega
  · rw [c3] at h
    repeat' split
    all_goals omega
theorem need_no {n : Int} (h : n < 0 ∨ ∀ j : Nat, j < 4 → capOf j < n) : need n = -1 := by
  unfold need
  rcases h with h | h
  · rw [if_pos h]
  · have := h 3 (by omega)
    simp [capOf3] at this
    rw [if_neg (by omega), if_neg (by omega), if_neg (by omega), if_neg (by omega), if_neg (by omega)]
theorem slab_bd (k : Int) : -1 ≤ slab k ∧ slab k ≤ 250 := by
  unfold slab
  split <;> omega
theorem slabOf_bd (l : Int) : -1 ≤ slabOf l ∧ slabOf l ≤ 31 := by
  unfold slabOf
  split <;> omega
theorem startsTo_length (f : Int) (s i : Nat) : (startsTo f s i).length = i := by simp [startsTo]
theorem startsTo_succ (f : Int) (s i : Nat) : startsTo f s (i + 1) = startsTo f s i ++ [f + ((i * s : Nat) : Int)] := by simp [startsTo, List.range_succ]
theorem starts_length (k c : Int) : (starts k c).length ≤ 8 := by
  unfold starts
  split
  · simp
  · rw [startsTo_length]
    exact Nat.div_le_self _ _
/-- where a value stands in a list; -1: nowhere -/
def idx (l : List Int) (v : Int) : Int := if v ∈ l then (l.idxOf v : Int) else -1
theorem idx_none {l : List Int} {v : Int} (h : v ∉ l) : idx l v = -1 := if_neg h
theorem idx_some {l : List Int} {v : Int} {k : Nat} (hk : k < l.length) (he : l[k] = v) (hno : ∀ j (h : j < k), l[j]'(by omega) ≠ v) : idx l v = k := by
  unfold idx
  have hm : v ∈ l := he ▸ List.getElem_mem hk
  rw [if_pos hm]
  congr 1
  have h1 := List.getElem_idxOf (List.idxOf_lt_length_iff.2 hm)
  rcases Nat.lt_trichotomy (l.idxOf v) k with h | h | h
  · exact absurd h1 (hno _ h)
  · exact h
  · have := List.not_of_lt_findIdx (xs := l) (p := (· == v)) h
    simp [he] at this
theorem idx_nonneg (l : List Int) (v : Int) : decide (0 ≤ idx l v) = decide (v ∈ l) := by
  unfold idx
  by_cases h : v ∈ l
  · simp [h]
  · simp [h]
theorem idx_bd (l : List Int) (v : Int) : -1 ≤ idx l v ∧ idx l v ≤ l.length := by
  unfold idx
  split
  · have := List.idxOf_le_length (a := v) (l := l)
    omega
  · omega
end Go.Proofs.FuClass
/- The contracts of package class and of its reference, with what they call of geom. -/
namespace Go.Proofs.Ytecdalmnndalgaa
open Go.RowKit Go.Proofs.FuMem Go.Proofs.FuClass
set_option maxRecDepth 100000
def NoneBelow (n : Int) (k : Nat) : Prop := ∀ j : Nat, j < k → capOf j < n
theorem NoneBelow.succ {n : Int} {k : Nat} (h : NoneBelow n k) (h2 : capOf k < n) : NoneBelow n (k + 1) := fun j hj => by
  by_cases e : j = k
  · rw [e]; exact h2
  · exact h j (by omega)
end Go.Proofs.Ytecdalmnndalgaa
/- The contracts of class.Starts, class.Home and of their references; slices.Index, slices.Contains on ints. -/
namespace Go.Proofs.Ytecdalmnndalgaa
open Go.RowKit Go.Proofs.FuMem Go.Proofs.FuClass
set_option maxRecDepth 100000
theorem starts_next (f : Int) (s i : Nat) (x : Int) (hx : x = f + ((i * s : Nat) : Int)) : (startsTo f s i).map (Value.int .i64) ++ [.int .i64 x] = (startsTo f s (i + 1)).map (.int .i64) := by
  rw [startsTo_succ, List.map_append, hx]
  rfl
end Go.Proofs.Ytecdalmnndalgaa
/- The contracts of package nvm, fifth part: the cut. -/
namespace Go.Proofs.Ytecdalmnndalgaa
open Go.RowKit Go.Proofs.FuMem Go.Proofs.FuNvm Go.Proofs.FuCode
set_option maxRecDepth 100000
/-- append to a slice of the call's own: what stood before the call is as it was -/
theorem append_ownB {P : Program} (w : World) {w0 : World} {T : List Nat} (on : Only T w0 w) (t ty e : TypeId) (i : TypeInfo) (z : Value) (bytes : Nat) (ht : P.underlying t = some (.slice e)) (hi : P.info? e = some i) (hz : i.zero = some z)
    (hsize : i.size = 1) (hby : i.bytes = bytes) (hzs : z.cells.size = 1)
    (v : Value) (n : Nat) (xs : List Value) (hown : w.ownsRow w0.heap.size e 1 v n xs)
    (A : Option Addr) (m c : Nat) (news : List Value) (hr : Sl w A m news) (h1 : ∀ u ∈ news, u.oneCell' = true)
    (h63 : n + m ≤ maxLen) (hbytes : (n + m) * bytes ≤ 140737488355328) :
    ∃ A' c' w', (Builtin.append_ #[t, t] ty #[v, .slice A m c]).run P w = .ok (.slice A' (n + m) c') w' ∧ w'.ownsRow w0.heap.size e 1 (.slice A' (n + m) c') (n + m) (xs ++ news) ∧
      Only T w0 w' ∧ Below w0.heap.size w w' := by
  obtain ⟨v', w', hrun, h2, h3, _⟩ := run_append_sl (P := P) w w0.heap.size t ty e i z bytes ht hi hz hsize hby hzs v n xs hown A m c news hr h1 h63 hbytes on.size
  obtain ⟨A', c', rfl, _, _⟩ := own_slice h2
  have hb : ∀ k, k < w0.heap.size → w'.heap[k]? = w.heap[k]? := fun k hk => h3.block k (Nat.lt_of_lt_of_le hk on.size) (fun e => by have := hown.lt k e.symm; omega)
  refine ⟨A', c', w', hrun, h2, ⟨h3.os.trans on.os, h3.tape.trans on.tape, h3.output.trans on.output, Nat.le_trans on.size h3.size, fun k hk hn => (hb k hk).trans (on.block k hk hn)⟩, ⟨h3.os, h3.tape, h3.output, h3.size, hb⟩⟩
theorem IsDev.below {tD tC : TypeId} {w w' : World} {g cb cap B : Nat} {D : Dev} (h : IsDev tD tC w g cb cap D) (hb : Below B w w') (h1 : g < B) (h2 : cb < B) : IsDev tD tC w' g cb cap D :=
  ⟨(hb.block g h1).trans h.head, let ⟨cs, hbl, hp⟩ := h.body; ⟨cs, (hb.block cb h2).trans hbl, hp⟩, h.ne, h.ok, h.few, h.cap_le⟩
theorem IsDev.ready {tD tC : TypeId} {w : World} {g cb cap : Nat} {D : Dev} (h : IsDev tD tC w g cb cap D) {i : Nat} (hi : i < D.lines.length) :
    ∃ cs, Blk w cb tC cs ∧ (∀ (o : Nat) (l : List UInt8), l.length = 64 → o + 64 ≤ 193 → i * 193 + o + (l.map B).toArray.size ≤ cs.size) ∧
      ∀ (o : Nat) (l : List UInt8) (y : Line), o + l.length ≤ 193 → cellsOf y = (cellsOf D.lines[i]).take o ++ l.map B ++ (cellsOf D.lines[i]).drop (o + (l.map B).length) → y.Ok →
        ∀ w', Blk w' cb tC (FuMem.splice cs (i * 193 + o) (l.map B).toArray.toList) → Only [cb] w w' → IsDev tD tC w' g cb cap { D with lines := D.lines.set i y } := by
  obtain ⟨cs, hb, hp⟩ := h.body
  have hs := body_size h.ok hp
  have hi2 : (i + 1) * 193 ≤ D.lines.length * 193 := Nat.mul_le_mul_right _ hi
  refine ⟨cs, hb, fun o l hl ho => ?_, fun o l y ho hy hyo w' hb' on => ?_⟩
  · rw [List.size_toArray, List.length_map, hl]
    omega
  · exact h.write hi (o := o) (vs := l.map B) (by rw [List.length_map]; exact ho) hy hyo cs hp hb' on
def isLost (keep : List Int) (i : Nat) (x : Line) : Bool := (x.now != x.kept) && !(decide ((i : Int) ∈ keep))
def cutL (keep : List Int) (i : Nat) (x : Line) : Line :=
  if (x.now != x.kept) = true ∧ (i : Int) ∈ keep then { x with kept := x.now, sent := false } else { x with now := x.kept, sent := false }
def lostTo (keep : List Int) (L : List Line) (i : Nat) : List Int := ((List.range i).filter fun j => (L[j]?.map (isLost keep j)).getD false).map fun (j : Nat) => (j : Int)
theorem lostTo_succ (keep : List Int) (L : List Line) (i : Nat) (hi : i < L.length) : lostTo keep L (i + 1) = if isLost keep i L[i] = true then lostTo keep L i ++ [(i : Int)] else lostTo keep L i := by
  unfold lostTo
  rw [List.range_succ, List.filter_append, List.map_append]
  by_cases h : isLost keep i L[i] = true
  · rw [if_pos h]
    simp [List.getElem?_eq_getElem hi, h]
  · rw [if_neg h]
    simp [List.getElem?_eq_getElem hi, h]
theorem lostTo_length (keep : List Int) (L : List Line) (i : Nat) : (lostTo keep L i).length ≤ i := by
  unfold lostTo
  rw [List.length_map]
  exact Nat.le_trans (List.length_filter_le _ _) (by simp)
theorem is_only_pos {w w' : World} {S : List Nat} {A : Option Addr} {n : Nat} {l : List Int} (h : Is w A n l) (ho : Only S w w') (hs : 0 < n → ∀ b off s, A = some ⟨b, off, s⟩ → b ∉ S) : Is w' A n l := by
  rcases Nat.eq_zero_or_pos n with rfl | hp
  · have := h.len
    obtain rfl : l = [] := List.length_eq_zero_iff.1 this
    exact Is.nil _ _
  · exact h.only ho (hs hp)
def cutD (D : Dev) (keep : List Int) : Dev := { D with lines := D.lines.mapIdx (cutL keep), cuts := wrap64 (D.cuts + 1) }
end Go.Proofs.Ytecdalmnndalgaa
/- A new device. -/
set_option maxRecDepth 100000
namespace Go.Proofs.FuNvm
open Go.RowKit Go.Proofs.FuMem
def noLine : Line := ⟨List.replicate 64 0, List.replicate 64 0, List.replicate 64 0, false⟩
theorem noLine_ok : noLine.Ok := ⟨rfl, rfl, rfl⟩
def newDev (n : Nat) : Dev := ⟨List.replicate n noLine, 0, 0, 0, 0, 0⟩
theorem madeCells_list (c : List Value) (n : Nat) (_hc : 0 < c.length) : madeCells c.toArray (n * c.length) = (List.replicate n c).flatten.toArray := by
  have h : ∀ n, (List.range (n * c.length)).map (fun i => c.toArray[i % c.toArray.size]!) = (List.replicate n c).flatten := by
    intro n
    induction n with
    | zero => simp
    | succ n ih =>
      rw [Nat.succ_mul, List.range_add, List.map_append, ih, List.replicate_succ', List.flatten_append]
      congr 1
      simp only [List.map_map, List.flatten_cons, List.flatten_nil, List.append_nil]
      apply List.ext_getElem
      · simp
      · intro i h1 h2
        simp only [List.getElem_map, List.getElem_range, Function.comp, List.size_toArray]
        have e : (n * c.length + i) % c.length = i := by rw [Nat.mul_comm, Nat.mul_add_mod, Nat.mod_eq_of_lt h2]
        rw [e]
        simp [h2]
  unfold madeCells
  rw [← h n]
  apply Array.ext'
  simp
theorem flat_replicate (n : Nat) (x : Line) : flat (List.replicate n x) = (List.replicate n (cellsOf x)).flatten := by
  unfold flat
  rw [List.flatMap_def, List.map_replicate]
theorem allOk_new (n : Nat) : AllOk (List.replicate n noLine) := fun x hx => by
  rw [(List.mem_replicate.mp hx).2]; exact noLine_ok
section
variable {P : Program} {w : World}
theorem make_lines (t e : TypeId) (i : TypeInfo) (z : Value) (ht : P.underlying t = some (.slice e)) (hi : P.info? e = some i) (hz : i.zero = some z) (hsize : i.size = 193) (hz1 : z.cells = (cellsOf noLine).toArray)
    (n : Nat) (hbytes : i.bytes * n ≤ 281474976710656) (h63 : n ≤ 9223372036854775807) :
    ∃ w', (Instr.makeSlice t (.int .i64 (n : Int)) (.int .i64 (n : Int))).run P w = .ok (.slice (some ⟨w.heap.size, 0, none⟩) n n) w' ∧
      Blk w' w.heap.size e (flat (List.replicate n noLine)).toArray ∧ Only [] w w' ∧ w'.heap.size = w.heap.size + 1 := by
  have hb : (i.bytes : Int) * (n : Int) ≤ 281474976710656 := by
    have h : ((i.bytes * n : Nat) : Int) ≤ 281474976710656 := by omega
    rwa [Int.natCast_mul] at h
  have hr := run_make (P := P) w t e i z ht hi hz .i64 .i64 n n (by omega) (by omega) hb (by omega)
  simp only [Int.toNat_natCast] at hr
  have hm := madeCells_list (cellsOf noLine) n (by rw [cellsOf_length noLine_ok]; decide)
  rw [cellsOf_length noLine_ok] at hm
  rw [hsize, hz1, hm, ← flat_replicate] at hr
  exact ⟨_, hr, Blk.new _ _ _, (Only.refl _ _).alloc _, by simp⟩
end
end Go.Proofs.FuNvm
namespace Go.Proofs.Ytecdalmnndalgaa
open Go.RowKit Go.Proofs.FuMem Go.Proofs.FuNvm
theorem cellZero : ∃ i z, Try.prog.info? 94 = some i ∧ i.zero = some z ∧ i.size = 193 ∧ z.cells = (cellsOf noLine).toArray ∧ i.bytes = 193 := ⟨_, _, rfl, rfl, rfl, rfl, rfl⟩
set_option maxHeartbeats 1000000 in
theorem nvm_New (n : Nat) (w : World) (h1 : 1 ≤ n) (h2 : n ≤ 258) :
    Calls Try.prog 10 #[.int .i64 n] w fun e w' => ∃ g cb, e = .returned (.tuple #[.pointer (some ⟨g, 0, none⟩), .int .i64 0]) ∧ DevAt w' g cb n (newDev n) ∧ Only [] w w' ∧ w.heap.size ≤ g ∧ w.heap.size ≤ cb := by
  obtain ⟨ci, cz, hi, hz, hs, hc, hby⟩ := cellZero
  obtain ⟨w1, hr, hb, ho, hg⟩ := make_lines (P := Try.prog) (w := w) 81 94 ci cz rfl hi hz hs hc n (by rw [hby]; omega) (by omega)
  have HB := Lib.hid hb
  have HON := Lib.hid ho
  have HG := Lib.hid hg
  clear hb ho hg hi hz hc
  have hh1 : decide ((n : Int) < 1) = false := by go_num
  have hh2 : decide ((258 : Int) < (n : Int)) = false := by go_num
  go_enter Try.func10, Try.ntmps10
  go_wp2
  go_ret2
  have hal : Only [] w1 (w1.alloc (.cells (headOf w.heap.size n (newDev n)) 87)) := (Only.refl _ _).alloc _
  have hln : (newDev n).lines.length = n := List.length_replicate
  have hhd := Blk.new w1 87 (headOf w.heap.size n (newDev n))
  have hg2 := HG.out
  have he : headOf w.heap.size n (newDev n) = #[.slice (some ⟨w.heap.size, 0, none⟩) n n, .int .i64 0, .int .i64 0, .int .i64 0, .int .i64 0, .int .i64 0] := by
    unfold headOf
    rw [hln]
    rfl
  rw [he] at hal
  refine ⟨w1.heap.size, w.heap.size, rfl, ⟨?_, ⟨_, HB.out.only hal (by simp), ?_⟩, by omega, allOk_new n, by omega, by omega⟩, HON.out.trans0 hal, by omega, Nat.le_refl _⟩
  · rw [he] at hhd ⊢
    exact hhd
  · rw [hln]
    unfold newDev
    have := flat_length (allOk_new n)
    rw [List.length_replicate] at this
    exact List.take_of_length_le (by simp [this])
theorem nvm_New_no (n : Int) (w : World) (h : n < 1 ∨ 258 < n) :
    Calls Try.prog 10 #[.int .i64 n] w fun e w' => e = .returned (.tuple #[.pointer none, .int .i64 2]) ∧ w' = w := by
  by_cases h1 : n < 1
  · have hh1 : decide (n < 1) = true := by simpa using h1
    clear h
    go_enter Try.func10, Try.ntmps10
    go_wp2
    go_ret2
    exact ⟨rfl, rfl⟩
  · have h2 : 258 < n := by omega
    have hh1 : decide (n < 1) = false := by simpa using h1
    have hh2 : decide (258 < n) = true := by simpa using h2
    clear h
    go_enter Try.func10, Try.ntmps10
    go_wp2
    go_ret2
    exact ⟨rfl, rfl⟩
end Go.Proofs.Ytecdalmnndalgaa
/- Law 3: what every program answers that is one. -/
set_option maxRecDepth 100000
namespace Go.Proofs.Ytecdalmnndalgaa
open Go.RowKit Go.Proofs.FuMem Go.Proofs.FuNvm Go.Proofs.FuCode
theorem bs_new (w : World) (t : TypeId) (l : List UInt8) : Bs (w.alloc (.cells (l.map B).toArray t)) (some ⟨w.heap.size, 0, none⟩) l.length l := by
  have := Blk.new w t (l.map B).toArray
  exact Sl.of_blk this 0 (by rw [List.drop_zero, List.take_of_length_le (by simp)]) (by simp)
theorem is_new (w : World) (t : TypeId) (l : List Int) : Is (w.alloc (.cells (l.map (Value.int .i64)).toArray t)) (some ⟨w.heap.size, 0, none⟩) l.length l := by
  have := Blk.new w t (l.map (Value.int .i64)).toArray
  exact Sl.of_blk this 0 (by rw [List.drop_zero, List.take_of_length_le (by simp)]) (by simp)
theorem madeB_get {w w' : World} {l : List UInt8} {v : Value} (h : MadeB w l v w') (hl : 0 < l.length) : ∃ g c, v = .slice (some ⟨g, 0, none⟩) l.length c ∧ OwnB 5 w' w.heap.size g l.length c l ∧ w.heap.size ≤ g ∧ Only [] w w' := by
  obtain ⟨A, c, rfl, h, o⟩ := h
  obtain ⟨g, rfl, hb, _, ho⟩ := OwnB.of h hl
  exact ⟨g, c, rfl, ho, hb, o⟩
def seven : Dev := storeD (newDev 2) 0 noLine 1 [7]
end Go.Proofs.Ytecdalmnndalgaa
/- Acts of law 3: how they lie in memory, and what a device does of them. -/
set_option maxRecDepth 100000
namespace Go.Proofs.FuNvm
open Go.RowKit Go.Proofs.FuMem
structure Deed where
  kind : Int
  line : Int
  pos : Int
  b : List UInt8
  keep : List Int
def lineOf (D : Dev) (i : Int) : Line := D.lines.getD i.toNat noLine
end Go.Proofs.FuNvm
namespace Go.Proofs.Ytecdalmnndalgaa
open Go.ChangeShapes Go.WideShapes Go.ChangeAt Go.RowKit Go.Proofs.FuMem Go.Proofs.FuNvm Go.Proofs.FuCode Go.Deep
/-- an act's two slices -/
structure Holds where
  bA : Option Addr
  bn : Nat
  bc : Nat
  kA : Option Addr
  kn : Nat
  kc : Nat
def deedV (x : Deed) (s : Holds) : List Value := [.int .i64 x.kind, .int .i64 x.line, .int .i64 x.pos, .slice s.bA s.bn s.bc, .slice s.kA s.kn s.kc]
structure DeedOk (w : World) (x : Deed) (s : Holds) : Prop where
  k1 : -9223372036854775808 ≤ x.kind ∧ x.kind ≤ 9223372036854775807
  k2 : -9223372036854775808 ≤ x.line ∧ x.line ≤ 9223372036854775807
  k3 : -9223372036854775808 ≤ x.pos ∧ x.pos ≤ 9223372036854775807
  bs : Bs w s.bA s.bn x.b
  is : Is w s.kA s.kn x.keep
  m1 : s.bn ≤ maxLen
  m2 : s.kn ≤ maxLen
theorem DeedOk.only0 {w w' : World} {x : Deed} {s : Holds} (h : DeedOk w x s) (o : Only [] w w') : DeedOk w' x s := ⟨h.k1, h.k2, h.k3, h.bs.only0 o, h.is.only0 o, h.m1, h.m2⟩
theorem sl_blocks {w : World} {A : Option Addr} {n : Nat} {xs : List Value} (h : Sl w A n xs) (hn : 0 < n) : ∀ b off s, A = some ⟨b, off, s⟩ → b < w.heap.size := by
  intro b off s e
  obtain ⟨b', off', e', hc⟩ := Sl.at_ h hn
  rw [e'] at e
  cases e
  have hl : xs.length = n := h.1
  have := hc 0 (by omega)
  exact lt_of_cell this
/-- acts in memory -/
def Deeds (w : World) (A : Option Addr) (n : Nat) (xs : List (Deed × Holds)) : Prop :=
  xs.length = n ∧ n ≤ maxLen ∧ (∀ x ∈ xs, DeedOk w x.1 x.2) ∧ (n = 0 ∨ ∃ b off, A = some ⟨b, off, none⟩ ∧ ∀ k x, xs[k]? = some x → w.rangeAt b (off + k * 5) (deedV x.1 x.2))
theorem Deeds.only0 {w w' : World} {A : Option Addr} {n : Nat} {xs : List (Deed × Holds)} (h : Deeds w A n xs) (o : Only [] w w') : Deeds w' A n xs := by
  obtain ⟨h1, h2, h3, h4⟩ := h
  refine ⟨h1, h2, fun x hx => (h3 x hx).only0 o, ?_⟩
  rcases h4 with h4 | ⟨b, off, e, h4⟩
  · exact .inl h4
  · refine .inr ⟨b, off, e, fun k x hk j v hv => ?_⟩
    have hc := h4 k x hk j v hv
    rw [cell_only o (lt_of_cell hc) (by simp)]
    exact hc
end Go.Proofs.Ytecdalmnndalgaa
/- What a device does of an act, whatever its numbers. -/
set_option maxRecDepth 100000
namespace Go.Proofs.Ytecdalmnndalgaa
open Go.RowKit Go.Proofs.FuMem Go.Proofs.FuNvm Go.Proofs.FuCode
instance (len : Nat) (line at_ n : Int) : Decidable (noPlace len line at_ n) := by unfold noPlace; infer_instance
def ansOf (p : Prop) [Decidable p] : Int := if p then 2 else 0
def store1 (D : Dev) (line pos : Int) (l : List UInt8) : Dev := if noPlace D.lines.length line pos l.length then D else storeD D line.toNat (lineOf D line) pos.toNat l
def flush1 (D : Dev) (line : Int) : Dev := if noPlace D.lines.length line 0 0 then D else flushD D line.toNat (lineOf D line)
def back1 (D : Dev) (line : Int) : Dev := if noPlace D.lines.length line 0 0 then D else backD D line.toNat (lineOf D line)
theorem lineOf_get {D : Dev} {i : Nat} (h : i < D.lines.length) : D.lines[i]? = some (lineOf D i) := by
  unfold lineOf
  rw [Int.toNat_natCast, List.getElem?_eq_getElem h]
  simp [List.getD, List.getElem?_eq_getElem h]
theorem nvm_Store_any (g cb cap : Nat) (D : Dev) (line pos : Int) (A : Option Addr) (n c : Nat) (l : List UInt8) (w : World) (hd : DevAt w g cb cap D) (hl : Bs w A n l) (hn : n ≤ maxLen) :
    Calls Try.prog 20 #[.pointer (some ⟨g, 0, none⟩), .int .i64 line, .int .i64 pos, .slice A n c] w fun e w' => e = .returned (.int .i64 (ansOf (noPlace D.lines.length line pos l.length))) ∧ DevAt w' g cb cap (store1 D line pos l) ∧ Only [g, cb] w w' := by
  have hlen : l.length = n := hl.len
  unfold ansOf store1
  rw [hlen]
  by_cases h : noPlace D.lines.length line pos n
  · rw [if_pos h, if_pos h]
    refine (nvm_Store_no g cb cap D line pos A n c w hd hn h).mono ?_
    rintro e w' ⟨rfl, rfl⟩
    exact ⟨rfl, hd, Only.refl _ _⟩
  · rw [if_neg h, if_neg h]
    have h' := h
    unfold noPlace at h'
    obtain ⟨i, rfl⟩ := Int.eq_ofNat_of_zero_le (show 0 ≤ line by omega)
    obtain ⟨a, rfl⟩ := Int.eq_ofNat_of_zero_le (show 0 ≤ pos by omega)
    rw [Int.toNat_natCast, Int.toNat_natCast]
    exact nvm_Store g cb cap D i a _ (lineOf_get (by omega)) A n c l w hd hl (by omega)
theorem nvm_Flush_any (g cb cap : Nat) (D : Dev) (line : Int) (w : World) (hd : DevAt w g cb cap D) :
    Calls Try.prog 63 #[.pointer (some ⟨g, 0, none⟩), .int .i64 line] w fun e w' => e = .returned (.int .i64 (ansOf (noPlace D.lines.length line 0 0))) ∧ DevAt w' g cb cap (flush1 D line) ∧ Only [g, cb] w w' := by
  unfold ansOf flush1
  by_cases h : noPlace D.lines.length line 0 0
  · rw [if_pos h, if_pos h]
    refine (nvm_Flush_no g cb cap D line w hd h).mono ?_
    rintro e w' ⟨rfl, rfl⟩
    exact ⟨rfl, hd, Only.refl _ _⟩
  · rw [if_neg h, if_neg h]
    have h' := h
    unfold noPlace at h'
    obtain ⟨i, rfl⟩ := Int.eq_ofNat_of_zero_le (show 0 ≤ line by omega)
    rw [Int.toNat_natCast]
    exact nvm_Flush g cb cap D i _ (lineOf_get (by omega)) w hd
theorem nvm_Back_any (g cb cap : Nat) (D : Dev) (line : Int) (w : World) (hd : DevAt w g cb cap D) :
    Calls Try.prog 32 #[.pointer (some ⟨g, 0, none⟩), .int .i64 line] w fun e w' => e = .returned (.int .i64 (ansOf (noPlace D.lines.length line 0 0))) ∧ DevAt w' g cb cap (back1 D line) ∧ Only [g, cb] w w' := by
  unfold ansOf back1
  by_cases h : noPlace D.lines.length line 0 0
  · rw [if_pos h, if_pos h]
    refine (nvm_Back_no g cb cap D line w hd h).mono ?_
    rintro e w' ⟨rfl, rfl⟩
    exact ⟨rfl, hd, Only.refl _ _⟩
  · rw [if_neg h, if_neg h]
    have h' := h
    unfold noPlace at h'
    obtain ⟨i, rfl⟩ := Int.eq_ofNat_of_zero_le (show 0 ≤ line by omega)
    rw [Int.toNat_natCast]
    exact nvm_Back g cb cap D i _ (lineOf_get (by omega)) w hd
def playD (D : Dev) (x : Deed) : Dev :=
  if x.kind = 0 then store1 D x.line x.pos x.b else if x.kind = 1 then flush1 D x.line else if x.kind = 2 then fenceD D else if x.kind = 3 then back1 D x.line else if x.kind = 4 then cutD D x.keep else D
end Go.Proofs.Ytecdalmnndalgaa
/- The checksum in plain Lean: one byte's step, its injectivity, folds over lists of bytes. No program in sight. -/
namespace Go.Proofs.FuCrc
/-- one bit -/
def cbit (c : Nat) : Nat := if c % 2 = 0 then c / 2 else (c / 2) ^^^ 3988292384
def cbits : Nat → Nat → Nat
  | 0, c => c
  | n + 1, c => cbits n (cbit c)
def cstep (c x : Nat) : Nat := cbits 8 (c ^^^ x)
def cfold (c : Nat) (l : List UInt8) : Nat := l.foldl (fun c x => cstep c x.toNat) c
/-- the sum of bytes behind others whose sum is c -/
def cadd (c : Nat) (l : List UInt8) : Nat := cfold (c ^^^ 4294967295) l ^^^ 4294967295
def crc (l : List UInt8) : Nat := cadd 0 l
theorem xor_lt {a b : Nat} (ha : a < 4294967296) (hb : b < 4294967296) : a ^^^ b < 4294967296 := Nat.xor_lt_two_pow (n := 32) ha hb
theorem cbit_lt {c : Nat} (h : c < 4294967296) : cbit c < 4294967296 := by
  unfold cbit
  split
  · omega
  · exact xor_lt (by omega) (by omega)
theorem cbits_succ (n c : Nat) : cbits (n + 1) c = cbit (cbits n c) := by
  induction n generalizing c with
  | zero => rfl
  | succ n ih => rw [cbits, ih, cbits]
theorem cbits_lt (n : Nat) {c : Nat} (h : c < 4294967296) : cbits n c < 4294967296 := by
  induction n generalizing c with
  | zero => exact h
  | succ n ih => exact ih (cbit_lt h)
theorem cstep_lt {c x : Nat} (h : c < 4294967296) (hx : x < 256) : cstep c x < 4294967296 := cbits_lt 8 (xor_lt h (by omega))
theorem byte_lt (x : UInt8) : x.toNat < 256 := x.toNat_lt
theorem cfold_lt (l : List UInt8) {c : Nat} (h : c < 4294967296) : cfold c l < 4294967296 := by
  unfold cfold
  induction l generalizing c with
  | nil => exact h
  | cons x l ih => exact ih (cstep_lt h (byte_lt x))
theorem cfold_append (c : Nat) (a b : List UInt8) : cfold c (a ++ b) = cfold (cfold c a) b := by simp [cfold]
theorem cfold_snoc (c : Nat) (a : List UInt8) (x : UInt8) : cfold c (a ++ [x]) = cstep (cfold c a) x.toNat := by simp [cfold]
theorem cfold_take (c : Nat) (l : List UInt8) (k : Nat) (h : k < l.length) : cfold c (l.take (k + 1)) = cstep (cfold c (l.take k)) l[k].toNat := by
  rw [List.take_succ_eq_append_getElem h, cfold_snoc]
theorem cadd_lt (l : List UInt8) {c : Nat} (h : c < 4294967296) : cadd c l < 4294967296 := xor_lt (cfold_lt l (xor_lt h (by omega))) (by omega)
theorem crc_lt (l : List UInt8) : crc l < 4294967296 := cadd_lt l (by omega)
theorem cadd_append (c : Nat) (a b : List UInt8) : cadd c (a ++ b) = cadd (cadd c a) b := by
  unfold cadd
  rw [cfold_append, Nat.xor_assoc, Nat.xor_self, Nat.xor_zero]
theorem crc_append (a b : List UInt8) : crc (a ++ b) = cadd (crc a) b := cadd_append 0 a b
theorem xor_cancel {a b c : Nat} (h : a ^^^ c = b ^^^ c) : a = b := by
  have := congrArg (· ^^^ c) h
  simpa [Nat.xor_assoc] using this
theorem testBit_hi {n : Nat} (h : n < 2147483648) : n.testBit 31 = false := Nat.testBit_lt_two_pow (by omega)
theorem cbit_inj {a b : Nat} (ha : a < 4294967296) (hb : b < 4294967296) (h : cbit a = cbit b) : a = b := by
  unfold cbit at h
  have p31 : (3988292384 : Nat).testBit 31 = true := by decide
  by_cases ea : a % 2 = 0 <;> by_cases eb : b % 2 = 0 <;> simp only [ea, eb, if_true, if_false] at h
  · omega
  · have h1 : (a / 2).testBit 31 = false := testBit_hi (by omega)
    have h2 : (b / 2).testBit 31 = false := testBit_hi (by omega)
    rw [h, Nat.testBit_xor, h2, p31] at h1
    simp at h1
  · have h1 : (a / 2).testBit 31 = false := testBit_hi (by omega)
    have h2 : (b / 2).testBit 31 = false := testBit_hi (by omega)
    rw [← h, Nat.testBit_xor, h1, p31] at h2
    simp at h2
  · have := xor_cancel h
    omega
theorem cbits_inj (n : Nat) {a b : Nat} (ha : a < 4294967296) (hb : b < 4294967296) (h : cbits n a = cbits n b) : a = b := by
  induction n generalizing a b with
  | zero => exact h
  | succ n ih => exact cbit_inj ha hb (ih (cbit_lt ha) (cbit_lt hb) h)
theorem cstep_inj_left {a b x : Nat} (ha : a < 4294967296) (hb : b < 4294967296) (hx : x < 256) (h : cstep a x = cstep b x) : a = b :=
  xor_cancel (cbits_inj 8 (xor_lt ha (by omega)) (xor_lt hb (by omega)) h)
theorem cstep_inj_right {a x y : Nat} (ha : a < 4294967296) (hx : x < 256) (hy : y < 256) (h : cstep a x = cstep a y) : x = y := by
  have := cbits_inj 8 (xor_lt ha (b := x) (by omega)) (xor_lt ha (by omega)) h
  rw [Nat.xor_comm a x, Nat.xor_comm a y] at this
  exact xor_cancel this
theorem cfold_inj (l : List UInt8) {a b : Nat} (ha : a < 4294967296) (hb : b < 4294967296) (h : cfold a l = cfold b l) : a = b := by
  unfold cfold at h
  induction l generalizing a b with
  | nil => exact h
  | cons x l ih => exact cstep_inj_left ha hb (byte_lt x) (ih (cstep_lt ha (byte_lt x)) (cstep_lt hb (byte_lt x)) h)
theorem cadd_inj (l : List UInt8) {a b : Nat} (ha : a < 4294967296) (hb : b < 4294967296) (h : cadd a l = cadd b l) : a = b :=
  xor_cancel (cfold_inj l (xor_lt ha (by omega)) (xor_lt hb (by omega)) (xor_cancel h))
/-- one byte turned turns the sum -/
theorem cadd_turn (c : Nat) (hc : c < 4294967296) (l : List UInt8) (k : Nat) (hk : k < l.length) (y : UInt8) (hne : y ≠ l[k]) : cadd c (l.set k y) ≠ cadd c l := by
  intro h
  have e1 : l.set k y = l.take k ++ [y] ++ l.drop (k + 1) := by
    rw [List.set_eq_take_append_cons_drop]; simp [hk]
  have e2 : l = l.take k ++ [l[k]] ++ l.drop (k + 1) := by
    rw [List.append_assoc]; simp
  have hc' : c ^^^ 4294967295 < 4294967296 := xor_lt hc (by omega)
  have h' := xor_cancel h
  rw [e1] at h'
  rw [show cfold (c ^^^ 4294967295) l = cfold (c ^^^ 4294967295) (l.take k ++ [l[k]] ++ l.drop (k + 1)) from congrArg _ e2] at h'
  rw [cfold_append, cfold_append (b := l.drop (k+1))] at h'
  rw [cfold_snoc, cfold_snoc] at h'
  have hl := cfold_lt (l.take k) hc'
  have h2 := cfold_inj _ (cstep_lt hl (byte_lt _)) (cstep_lt hl (byte_lt _)) h'
  exact hne (UInt8.toNat_inj.1 (cstep_inj_right hl (byte_lt _) (byte_lt _) h2))
theorem crc_turn (l : List UInt8) (k : Nat) (hk : k < l.length) (y : UInt8) (hne : y ≠ l[k]) : crc (l.set k y) ≠ crc l := cadd_turn 0 (by omega) l k hk y hne
theorem crc_nil : crc [] = 0 := by decide
end Go.Proofs.FuCrc
/- The contracts of package sum and of its reference. -/
namespace Go.Proofs.Ytecdalmnndalgaa
open Go.RowKit Go.Proofs.FuCrc Go.Proofs.FuMem
set_option maxRecDepth 100000
theorem bits_xor32 (a b : Nat) (ha : a < 4294967296) (hb : b < 4294967296) : bits .xor .u32 (a : Int) (b : Int) = ((a ^^^ b : Nat) : Int) := by
  have hx : a ^^^ b < 4294967296 := xor_lt ha hb
  show IntKind.u32.wrap ((BitVec.ofInt 32 (a : Int) ^^^ BitVec.ofInt 32 (b : Int)).toNat : Int) = _
  rw [BitVec.toNat_xor, BitVec.ofInt_natCast, BitVec.ofInt_natCast, BitVec.toNat_ofNat, BitVec.toNat_ofNat, Nat.mod_eq_of_lt (by omega), Nat.mod_eq_of_lt (by omega), IntKind.wrap_u32]
  omega
theorem xor_turn (a : Nat) (ha : a < 4294967296) : bits .xor .u32 (a : Int) 4294967295 = ((a ^^^ 4294967295 : Nat) : Int) := bits_xor32 a 4294967295 ha (by omega)
theorem bits_and32_1 (a : Nat) (ha : a < 4294967296) : bits .and .u32 (a : Int) 1 = ((a % 2 : Nat) : Int) := by
  show IntKind.u32.wrap ((BitVec.ofInt 32 (a : Int) &&& BitVec.ofInt 32 1).toNat : Int) = _
  rw [BitVec.toNat_and, BitVec.ofInt_natCast, BitVec.toNat_ofNat, Nat.mod_eq_of_lt (by omega), show (BitVec.ofInt 32 1).toNat = 1 from rfl, Nat.and_one_is_mod, IntKind.wrap_u32]
  omega
theorem cb_even {j y : Nat} (h : (((cbits j y : Nat) : Int) % 2 == 0) = true) (hy : y < 4294967296) : ((cbits j y : Nat) : Int) / 2 % 4294967296 = (cbits (j + 1) y : Nat) := by
  have := cbits_lt j hy
  rw [cbits_succ, cbit, if_pos (by simp at h; omega)]
  omega
theorem cb_odd {j y : Nat} (h : (((cbits j y : Nat) : Int) % 2 == 0) = false) (hy : y < 4294967296) : bits .xor .u32 (((cbits j y : Nat) : Int) / 2 % 4294967296) 3988292384 = (cbits (j + 1) y : Nat) := by
  have := cbits_lt j hy
  rw [cbits_succ, cbit, if_neg (by simp at h; omega), show ((cbits j y : Nat) : Int) / 2 % 4294967296 = ((cbits j y / 2 : Nat) : Int) by omega]
  exact bits_xor32 _ 3988292384 (by omega) (by omega)
theorem sum_step (c x : Nat) (w : World) (hc : c < 4294967296) (hx : x < 256) :
    Calls Try.prog 82 #[.int .u32 c, .int .u8 x] w fun e w' => e = .returned (.int .u32 (cstep c x)) ∧ w = w' := by
  have hy : c ^^^ x < 4294967296 := xor_lt hc (by omega)
  go_enter Try.func82, Try.ntmps82
  go_wp2
  go_step3
  go_wp2
  go_step3
  go_wp2
  rw [bits_xor32 c x hc (by omega)]
  go_loop [0, 5] (fun cc k => ∃ j : Nat, j ≤ 8 ∧ k = .int .i64 j ∧ cc = .int .u32 (cbits j (c ^^^ x))) (fun _ k => 8 - (intOf k).toNat)
  case atStart => exact ⟨0, Nat.zero_le _, rfl, rfl⟩
  case round =>
    obtain ⟨j, hj, rfl, rfl⟩ := hrel
    by_cases hlt : j < 8
    · go_wp2
      all_goals
        go_round
        case rel => exact ⟨j + 1, by omega, by go_num, by first | rw [cb_even ‹_› hy] | (rw [cb_odd ‹_› hy])⟩
        case measure => simp [intOf]; omega
    · go_wp2
      obtain rfl : j = 8 := by omega
      go_ret
      exact ⟨rfl, rfl⟩
theorem sum_Add (c : Nat) (A : Option Addr) (n cap : Nat) (l : List UInt8) (w : World) (hc : c < 4294967296) (hb : Bs w A n l) (hn : n ≤ maxLen) :
    Calls Try.prog 80 #[.int .u32 c, .slice A n cap] w fun e w' => e = .returned (.int .u32 (cadd c l)) ∧ w = w' := by
  have hy : c ^^^ 4294967295 < 4294967296 := xor_lt hc (by omega)
  have hl := Lib.hid hb.len
  have HB := Lib.hid hb
  clear hb
  unfold maxLen at hn
  go_enter Try.func80, Try.ntmps80
  go_wp2
  rw [xor_turn c hc]
  go_loop [0, 6, 11] (fun cc _ k => ∃ j : Nat, j ≤ n ∧ k = .int .i64 j ∧ cc = .int .u32 (cfold (c ^^^ 4294967295) (l.take j))) (fun _ _ k => n - (intOf k).toNat)
  case atStart => exact ⟨0, Nat.zero_le _, rfl, rfl⟩
  case round =>
    obtain ⟨j, hj, rfl, rfl⟩ := hrel
    by_cases hlt : j < n
    · obtain ⟨b, off, rfl, hcell⟩ := HB.out.at_ (by omega)
      have hjl : j < l.length := by rw [hl.out]; exact hlt
      have hc1 := hcell j hjl
      have hx := byte_lt l[j]
      have hcl := cfold_lt (l.take j) hy
      have HT := Lib.hid (cfold_take (c ^^^ 4294967295) l j hjl)
      clear hcell
      go_wp2_with (go_at_call 82; refine (sum_step _ _ _ hcl hx).mono ?_; rintro e w' ⟨rfl, rfl⟩)
      go_round
      case rel => exact ⟨j + 1, by omega, by go_num, by rw [HT.out]⟩
      case measure => simp [intOf]; omega
    · go_wp2
      go_ret
      exact ⟨ret_int (by rw [List.take_of_length_le (by rw [hl.out]; omega)]; exact xor_turn _ (cfold_lt l hy)), rfl⟩
theorem sum_Sum (A : Option Addr) (n cap : Nat) (l : List UInt8) (w : World) (hb : Bs w A n l) (hn : n ≤ maxLen) :
    Calls Try.prog 76 #[.slice A n cap] w fun e w' => e = .returned (.int .u32 (crc l)) ∧ w = w' := by
  have HB := Lib.hid hb
  clear hb
  go_enter Try.func76, Try.ntmps76
  go_wp2_with (go_at_call 80; refine (sum_Add 0 _ _ _ l _ (by omega) HB.out hn).mono ?_; rintro e w' ⟨rfl, rfl⟩)
  go_ret
  exact ⟨rfl, rfl⟩
theorem rb_even {j y : Nat} (h : (bits .and .u32 ((cbits j y : Nat) : Int) 1 == 1) = false) (hy : y < 4294967296) : ((cbits j y : Nat) : Int) / 2 % 4294967296 = (cbits (j + 1) y : Nat) := by
  have := cbits_lt j hy
  rw [bits_and32_1 _ this] at h
  exact cb_even (by simp at h ⊢; omega) hy
theorem rb_odd {j y : Nat} (h : (bits .and .u32 ((cbits j y : Nat) : Int) 1 == 1) = true) (hy : y < 4294967296) : bits .xor .u32 (((cbits j y : Nat) : Int) / 2 % 4294967296) 3988292384 = (cbits (j + 1) y : Nat) := by
  have := cbits_lt j hy
  rw [bits_and32_1 _ this] at h
  exact cb_odd (by simp at h ⊢; omega) hy
theorem ref1_step (c x : Nat) (w : World) (hc : c < 4294967296) (hx : x < 256) :
    Calls Try.prog 83 #[.int .u32 c, .int .u8 x] w fun e w' => e = .returned (.int .u32 (cstep c x)) ∧ w = w' := by
  have hy : c ^^^ x < 4294967296 := xor_lt hc (by omega)
  go_enter Try.func83, Try.ntmps83
  go_wp2
  rw [bits_xor32 c x hc (by omega)]
  go_loop [0, 5, 6] (fun cc k _ => ∃ j : Nat, j ≤ 8 ∧ k = .int .i64 j ∧ cc = .int .u32 (cbits j (c ^^^ x))) (fun _ k _ => 8 - (intOf k).toNat)
  case atStart => exact ⟨0, Nat.zero_le _, rfl, rfl⟩
  case round =>
    obtain ⟨j, hj, rfl, rfl⟩ := hrel
    by_cases hlt : j < 8
    · go_wp2
      all_goals
        go_round
        case rel => exact ⟨j + 1, by omega, by go_num, by first | rw [rb_even ‹_› hy] | (rw [rb_odd ‹_› hy])⟩
        case measure => simp [intOf]; omega
    · go_wp2
      obtain rfl : j = 8 := by omega
      go_ret
      exact ⟨rfl, rfl⟩
theorem ref1_Text (s : ByteArray) (w : World) (hn : s.size ≤ maxLen) :
    Calls Try.prog 81 #[.string s] w fun e w' => e = .returned (.int .u32 (crc s.data.toList)) ∧ w = w' := by
  unfold maxLen at hn
  go_enter Try.func81, Try.ntmps81
  go_wp2
  go_loop [3, 4] (fun cc k => ∃ j : Nat, j ≤ s.size ∧ k = .int .i64 j ∧ cc = .int .u32 (cfold 4294967295 (s.data.toList.take j))) (fun _ k => s.size - (intOf k).toNat)
  case atStart => exact ⟨0, Nat.zero_le _, rfl, rfl⟩
  case round =>
    obtain ⟨j, hj, rfl, rfl⟩ := hrel
    by_cases hlt : j < s.size
    · have hjl : j < s.data.toList.length := by simpa using hlt
      have hx := byte_lt s[j]
      have hcl := cfold_lt (s.data.toList.take j) (c := 4294967295) (by omega)
      have HT := Lib.hid (cfold_take 4294967295 s.data.toList j hjl)
      go_wp2_with (go_at_call 83; refine (ref1_step _ _ _ hcl hx).mono ?_; rintro e w' ⟨rfl, rfl⟩)
      go_round
      case rel => exact ⟨j + 1, by omega, by go_num, by rw [HT.out]; rfl⟩
      case measure => simp [intOf]; omega
    · go_wp2
      go_ret
      exact ⟨ret_int (by rw [List.take_of_length_le (by simp; omega)]; exact xor_turn _ (cfold_lt _ (by omega))), rfl⟩
end Go.Proofs.Ytecdalmnndalgaa
/- The contract of code.Put. -/
namespace Go.Proofs.Ytecdalmnndalgaa
open Go.RowKit Go.Proofs.FuMem Go.Proofs.FuCode
set_option maxRecDepth 100000
/-- bytes and an error handed back -/
def MadeE (w : World) (r : List UInt8 × Nat) (e : Ending) (w' : World) : Prop := ∃ x, e = .returned (.tuple #[x, .int .i64 r.2]) ∧ MadeB w r.1 x w'
theorem madeE_err (w : World) (k : Nat) : MadeE w ([], k) (.returned (.tuple #[.slice none 0 0, .int .i64 k])) w := ⟨_, rfl, none, 0, rfl, own_nil _ _ _ _, Only.refl _ _⟩
theorem byte_shr (v j : Nat) : ((v : Int) / 2 ^ (8 * j) % 256) = ((UInt8.ofNat (v / 256 ^ j % 256)).toNat : Int) := by
  rw [ofNat_mod, pow256]
  simp
theorem over_lay_succ (l : List UInt8) (a j v : Nat) (h : a + j < l.length) : (over l a (lay j v)).set (a + j) (UInt8.ofNat (v / 256 ^ j % 256)) = over l a (lay (j + 1) v) := by
  have := over_snoc l a (lay j v) (UInt8.ofNat (v / 256 ^ j % 256)) (by rw [lay_length]; exact h)
  rw [lay_succ, this, lay_length]
theorem shr_pos {v m : Nat} (h : 256 ^ m ≤ v) : ((v : Int) / 2 ^ (8 * m) != 0) = true := by
  have h0 : 0 < v / 256 ^ m := Nat.div_pos h (Nat.pow_pos (by omega))
  rw [pow256] at h0
  have : (v : Int) / 2 ^ (8 * m) = ((v / 2 ^ (8 * m) : Nat) : Int) := by simp
  rw [bne_iff_ne]
  omega
theorem shr_zero {v m : Nat} (h : v < 256 ^ m) : ((v : Int) / 2 ^ (8 * m) != 0) = false := by
  have h0 : v / 256 ^ m = 0 := Nat.div_eq_of_lt h
  rw [pow256] at h0
  have : (v : Int) / 2 ^ (8 * m) = ((v / 2 ^ (8 * m) : Nat) : Int) := by simp
  rw [this, h0]
  rfl
theorem code_Put (A : Option Addr) (n c : Nat) (l : List UInt8) (at_ k : Int) (v : Nat) (w : World) (h : Bs w A n l) (hn : n ≤ 1000000) (h1 : -9223372036854775808 ≤ at_ ∧ at_ ≤ 9223372036854775807) (h2 : -9223372036854775808 ≤ k ∧ k ≤ 9223372036854775807) (hv : v < 18446744073709551616) :
    Calls Try.prog 68 #[.slice A n c, .int .i64 at_, .int .i64 k, .int .u64 v] w (MadeE w (put l at_ k v)) := by
  have hl := h.len
  have hck := code_check A n c at_ k w (by unfold maxLen; omega) h1 h2
  by_cases hw : wrong n at_ k = 0
  · obtain ⟨hk1, hk2, ha1, ha2⟩ := wrong_zero hw
    obtain ⟨a, rfl⟩ := Int.eq_ofNat_of_zero_le ha1
    obtain ⟨m, rfl⟩ := Int.eq_ofNat_of_zero_le (show 0 ≤ k by omega)
    rw [hw] at hck
    by_cases hbig : 256 ^ m ≤ v
    · have hm : m < 8 := by
        rcases Nat.lt_or_ge m 8 with h8 | h8
        · exact h8
        · have : 256 ^ 8 ≤ 256 ^ m := Nat.pow_le_pow_right (by omega) h8
          omega
      have hp : put l (a : Int) (m : Int) v = ([], 11) := by
        unfold put
        rw [hl, hw, if_neg (by omega), if_pos (by simpa using hbig)]
      have hs := shr_pos hbig
      rw [hp]
      have HC := Lib.hid hck
      clear hck hw hp hbig h hl
      go_enter Try.func68, Try.ntmps68
      go_wp2_with fail
      refine (HC.out).mono ?_
      rintro e w' ⟨rfl, rfl⟩
      go_wp2
      go_ret2
      exact madeE_err _ 11
    · have hp : put l (a : Int) (m : Int) v = (over l a (lay m v), 0) := by
        unfold put
        rw [hl, hw, if_neg (by omega), if_neg (by simpa using hbig)]
        simp
      rw [hp]
      have hs := shr_zero (Nat.lt_of_not_le hbig)
      have hcl := clone_bytes A n c l w h hn
      have HCL := Lib.hid hcl
      have HC := Lib.hid hck
      have HL := Lib.hid hl
      clear hck hw hp hbig h hl hcl
      by_cases hm : m < 8
      all_goals
        go_enter Try.func68, Try.ntmps68
        go_wp2_with fail
        refine (HC.out).mono ?_
        rintro e w' ⟨rfl, rfl⟩
        go_wp2_with fail
        refine HCL.out.mono ?_
        rintro e w1 ⟨_, rfl, A1, c1, rfl, ho, on⟩
        rw [HL.out] at ho ⊢
        obtain ⟨g, rfl, hbg, hgl, ho⟩ := OwnB.of ho (by omega)
        have HO := Lib.hid ho
        have HN := Lib.hid on
        clear ho on
        go_wp2
        go_loopw [12, 32] (fun _ i wr => ∃ j : Nat, j ≤ m ∧ i = .int .i64 j ∧ OwnB 5 wr w.heap.size g n c1 (over l a (lay j v)) ∧ Only [] w wr) (fun _ i _ => m - (intOf i).toNat)
        case atStart => exact ⟨0, Nat.zero_le _, rfl, by rw [show lay 0 v = [] from rfl, over_nil]; exact HO.out, HN.out⟩
        case round =>
          obtain ⟨j, hj, rfl, ho, on⟩ := hrel
          by_cases hlt : j < m
          · have hcell := ho.cell (a + j) (by omega)
            have hfr := ho.frozen (a + j)
            have hst := ho.set (a + j) (byte_shr v j)
            rw [over_lay_succ l a j v (by rw [HL.out]; omega)] at hst
            have on2 := on.setCell (p := ⟨g, a + j, none⟩) (.inr hbg) (.int .u8 ((v : Int) / 2 ^ (8 * j) % 256))
            have H1 := Lib.hid hst
            have H2 := Lib.hid on2
            clear ho on hst on2
            go_wp2
            go_roundw
            case rel => exact ⟨j + 1, by omega, by go_num, H1.out, H2.out⟩
            case measure => simp [intOf]; omega
          · obtain rfl : j = m := by omega
            have H1 := Lib.hid ho
            have H2 := Lib.hid on
            clear ho on
            go_wp2
            go_ret2
            exact ⟨.slice (some ⟨g, 0, none⟩) n c1, rfl, madeB_of H1.out H2.out⟩
  · have hp : put l at_ k v = ([], wrong n at_ k) := by
      unfold put
      rw [hl, if_pos hw]
    rw [hp]
    have hle := wrong_le n at_ k
    generalize wrong n at_ k = e at *
    have hb : ((e : Int) != 0) = true := by rw [bne_iff_ne]; omega
    have HC := Lib.hid hck
    clear hck hw hp h hl
    go_enter Try.func68, Try.ntmps68
    go_wp2_with fail
    refine (HC.out).mono ?_
    rintro e w' ⟨rfl, rfl⟩
    go_wp2
    go_ret2
    exact madeE_err _ _
end Go.Proofs.Ytecdalmnndalgaa
/- The contracts of code.Get, code.Zeros. -/
namespace Go.Proofs.Ytecdalmnndalgaa
open Go.RowKit Go.Proofs.FuMem Go.Proofs.FuCode
set_option maxRecDepth 100000
theorem bits_or64 (a b : Nat) (ha : a < 18446744073709551616) (hb : b < 18446744073709551616) : bits .or .u64 (a : Int) (b : Int) = ((a ||| b : Nat) : Int) := by
  have hx : a ||| b < 18446744073709551616 := Nat.or_lt_two_pow (n := 64) ha hb
  show IntKind.u64.wrap ((BitVec.ofInt 64 (a : Int) ||| BitVec.ofInt 64 (b : Int)).toNat : Int) = _
  rw [BitVec.toNat_or, BitVec.ofInt_natCast, BitVec.ofInt_natCast, BitVec.toNat_ofNat, BitVec.toNat_ofNat, Nat.mod_eq_of_lt (by omega), Nat.mod_eq_of_lt (by omega), IntKind.wrap_u64]
  omega
theorem or_step (l : List UInt8) (a j : Nat) (hj : j < 8) (h : a + j < l.length) :
    bits .or .u64 (num ((l.drop a).take j) : Int) (IntKind.u64.wrap (IntKind.u64.wrap (l[a + j].toNat : Int) * 2 ^ (8 * j))) = (num ((l.drop a).take (j + 1)) : Int) := by
  have h2 : j < (l.drop a).length := by simp; omega
  have e := num_take_succ (l.drop a) j h2
  rw [List.getElem_drop] at e
  have hx := num_lt ((l.drop a).take j)
  rw [List.length_take, Nat.min_eq_left (by omega)] at hx
  have hy := l[a + j].toNat_lt
  generalize l[a + j].toNat = y at *
  generalize num ((l.drop a).take j) = x at *
  have hp : 256 ^ (j + 1) ≤ 18446744073709551616 := pow_le8 _ (by omega)
  have h3 : y * 256 ^ j + 256 ^ j ≤ 256 ^ (j + 1) := by
    rw [Nat.pow_succ, Nat.mul_comm y]
    have := Nat.mul_le_mul_left (256 ^ j) (show y + 1 ≤ 256 by omega)
    rw [Nat.mul_add] at this
    omega
  have e1 : IntKind.u64.wrap (IntKind.u64.wrap (y : Int) * 2 ^ (8 * j)) = ((y * 2 ^ (8 * j) : Nat) : Int) := by
    rw [← pow256]
    have : (2 : Int) ^ (8 * j) = ((256 ^ j : Nat) : Int) := by rw [pow256]; simp
    rw [this, IntKind.wrap_u64, IntKind.wrap_u64, show (y : Int) % 18446744073709551616 = y by omega, ← Int.natCast_mul]
    omega
  rw [e1, bits_or64 _ _ (by omega) (by rw [← pow256]; omega), num_or x j y hx, e]
theorem code_Get (A : Option Addr) (n c : Nat) (l : List UInt8) (at_ k : Int) (w : World) (h : Bs w A n l) (hn : n ≤ 1000000) (h1 : -9223372036854775808 ≤ at_ ∧ at_ ≤ 9223372036854775807) (h2 : -9223372036854775808 ≤ k ∧ k ≤ 9223372036854775807) :
    Calls Try.prog 45 #[.slice A n c, .int .i64 at_, .int .i64 k] w fun e w' => e = .returned (.tuple #[.int .u64 (cget l at_ k).1, .int .i64 (cget l at_ k).2]) ∧ w = w' := by
  have hl := h.len
  have hck := code_check A n c at_ k w (by unfold maxLen; omega) h1 h2
  by_cases hw : wrong n at_ k = 0
  · obtain ⟨hk1, hk2, ha1, ha2⟩ := wrong_zero hw
    obtain ⟨a, rfl⟩ := Int.eq_ofNat_of_zero_le ha1
    obtain ⟨m, rfl⟩ := Int.eq_ofNat_of_zero_le (show 0 ≤ k by omega)
    rw [hw] at hck
    have hp : cget l (a : Int) (m : Int) = (num ((l.drop a).take m), 0) := by
      unfold cget
      rw [hl, hw, if_neg (by omega)]
      simp
    rw [hp]
    obtain ⟨b, off, rfl, hcell⟩ := h.at_ (by omega)
    have HL := Lib.hid hl
    have HC := Lib.hid hck
    have HX := Lib.hid hcell
    clear hck hw hp h hl hcell
    go_enter Try.func45, Try.ntmps45
    go_wp2_with fail
    refine (HC.out).mono ?_
    rintro e w' ⟨rfl, rfl⟩
    go_wp2
    go_loop [9, 10, 19] (fun v _ i => ∃ j : Nat, j ≤ m ∧ i = .int .i64 j ∧ v = .int .u64 (num ((l.drop a).take j))) (fun _ _ i => m - (intOf i).toNat)
    case atStart => exact ⟨0, Nat.zero_le _, rfl, rfl⟩
    case round =>
      obtain ⟨j, hj, rfl, rfl⟩ := hrel
      by_cases hlt : j < m
      · have hc1 := HX.out (a + j) (by rw [HL.out]; omega)
        have HS := Lib.hid (or_step l a j (by omega) (by rw [HL.out]; omega))
        go_wp2
        go_round
        case rel => exact ⟨j + 1, by omega, by go_num, by rw [HS.out]⟩
        case measure => simp [intOf]; omega
      · obtain rfl : j = m := by omega
        go_wp2
        go_ret2
        exact ⟨rfl, rfl⟩
  · have hp : cget l at_ k = (0, wrong n at_ k) := by
      unfold cget
      rw [hl, if_pos hw]
    rw [hp]
    have hle := wrong_le n at_ k
    generalize wrong n at_ k = e at *
    have hb : ((e : Int) != 0) = true := by rw [bne_iff_ne]; omega
    have HC := Lib.hid hck
    clear hck hw hp h hl
    go_enter Try.func45, Try.ntmps45
    go_wp2_with fail
    refine (HC.out).mono ?_
    rintro e w' ⟨rfl, rfl⟩
    go_wp2
    go_ret2
    exact ⟨rfl, rfl⟩
end Go.Proofs.Ytecdalmnndalgaa
/- Exclusive or on bytes. -/
namespace Go.Proofs.FuMem
theorem xor8 (a : UInt8) (j : Nat) (hj : j < 256) : bits .xor .u8 (a.toNat : Int) (j : Int) = ((a ^^^ UInt8.ofNat j).toNat : Int) := by
  have ha := a.toNat_lt
  have hx : a.toNat ^^^ j < 256 := Nat.xor_lt_two_pow (n := 8) ha hj
  show IntKind.u8.wrap ((BitVec.ofInt 8 (a.toNat : Int) ^^^ BitVec.ofInt 8 (j : Int)).toNat : Int) = _
  rw [BitVec.toNat_xor, BitVec.ofInt_natCast, BitVec.ofInt_natCast, BitVec.toNat_ofNat, BitVec.toNat_ofNat, Nat.mod_eq_of_lt (by omega), Nat.mod_eq_of_lt (by omega), IntKind.wrap_u8, UInt8.toNat_xor, UInt8.toNat_ofNat_of_lt' (by simpa using hj)]
  omega
theorem xor8_ne (a : UInt8) (j : Nat) (h0 : 0 < j) (hj : j < 256) : a ^^^ UInt8.ofNat j ≠ a := by
  intro h
  have h2 := congrArg UInt8.toNat h
  rw [UInt8.toNat_xor, UInt8.toNat_ofNat_of_lt' (by simpa using hj)] at h2
  have h3 : (a.toNat ^^^ j) ^^^ a.toNat = a.toNat ^^^ a.toNat := by rw [h2]
  rw [Nat.xor_comm a.toNat j, Nat.xor_assoc, Nat.xor_self, Nat.xor_zero] at h3
  omega
end Go.Proofs.FuMem
/- The contracts of the reference of chapter 2, and of OverBytes. -/
namespace Go.Proofs.Ytecdalmnndalgaa
open Go.RowKit Go.Proofs.FuMem Go.Proofs.FuCode
set_option maxRecDepth 100000
theorem lay_next (v j y : Nat) (hy : y = v / 256 ^ j) : (lay j v).map B ++ [Value.int .u8 ((y : Int) % 256)] = (lay (j + 1) v).map B := by
  rw [lay_succ, List.map_append, ← hy]
  congr 1
  simp only [List.map_cons, List.map_nil, B, ofNat_mod]
  rw [Int.natCast_emod]
  rfl
theorem one_ints (k : IntKind) (z : Int) : ∀ u ∈ [Value.int k z], u.oneCell' = true := by
  intro u hu
  rw [List.mem_singleton] at hu
  subst hu
  rfl
theorem one_cell (w : World) (t : TypeId) (v : Value) : Sl (w.alloc (.cells #[v] t)) (some ⟨w.heap.size, 0, none⟩) 1 [v] := Sl.of_blk (Blk.new w t #[v]) 0 rfl (by simp)
theorem ref2_Lay (k v : Nat) (w : World) (hk : k ≤ 8) (hv : v < 18446744073709551616) :
    Calls Try.prog 71 #[.int .i64 k, .int .u64 v] w fun e w' => ∃ x, e = .returned x ∧ MadeB w (lay k v) x w' := by
  obtain ⟨i0, hi, hz0, hz1, hz2⟩ := info_parts Try.byteInfo
  have HI := Lib.hid hi
  have HZ0 := Lib.hid hz0
  have HZ1 := Lib.hid hz1
  have HZ2 := Lib.hid hz2
  clear hi hz0 hz1 hz2
  go_enter Try.func71, Try.ntmps71
  go_wp2
  go_loopw [1, 5, 6] (fun x b i wr => ∃ j y : Nat, j ≤ k ∧ i = .int .i64 j ∧ x = .int .u64 (y : Int) ∧ y = v / 256 ^ j ∧ wr.ownsRow w.heap.size 5 1 b j ((lay j v).map B) ∧ Only [] w wr) (fun _ _ i _ => k - (intOf i).toNat)
  case atStart => exact ⟨0, v, Nat.zero_le _, rfl, rfl, by simp, own_nil _ _ _ _, Only.refl _ _⟩
  case round =>
    obtain ⟨j, y, hj, rfl, rfl, hy, ho, on⟩ := hrel
    by_cases hlt : j < k
    · have hyj : y < 18446744073709551616 := by rw [hy]; exact Nat.lt_of_le_of_lt (Nat.div_le_self _ _) hv
      have hq : y / 256 = v / 256 ^ (j + 1) := by rw [Nat.pow_succ, ← Nat.div_div_eq_div_mul, hy]
      have hln := lay_next v j y hy
      obtain ⟨A', c', w', hr, ho2, hs2, on2⟩ := append_own (P := Try.prog) (wr.alloc (.cells #[.int .u8 ((y : Int) % 256)] 5)) (on.alloc _) 48 48 5 i0 _ 1 Try.underlying48 HI.out HZ0.out HZ1.out HZ2.out rfl _ j ((lay j v).map B) (ho.alloc _) (some ⟨wr.heap.size, 0, none⟩) 1 1 [.int .u8 ((y : Int) % 256)] (one_cell _ _ _) (one_ints _ _) (by unfold maxLen; omega) (by omega)
      rw [hln] at ho2
      have H1 := Lib.hid ho2
      have H2 := Lib.hid on2
      have HQ := Lib.hid hq
      clear ho on hq ho2 on2 hs2 hln hy
      go_wp2_with (at_builtin; refine wpList_append_run _ rfl (.tmp 12) (.tmp 15) 48 rfl _ _ rfl rfl _ _ hr ?_)
      go_roundw
      case rel => exact ⟨j + 1, y / 256, by omega, by go_num, by go_num, HQ.out, H1.out, H2.out⟩
      case measure => simp [intOf]; omega
    · obtain rfl : j = k := by omega
      have hl := ho.1
      have hA := own_slice ho
      obtain ⟨A', c', rfl, _, _⟩ := hA
      have H1 := Lib.hid ho
      have H2 := Lib.hid on
      clear ho on hl hy
      go_wp2
      go_ret
      exact ⟨.slice A' j c', rfl, madeB_own (lay_length j v) H1.out H2.out⟩
end Go.Proofs.Ytecdalmnndalgaa
/- The lines of superblock and clock, in plain Lean. No program in sight. -/
namespace Go.Proofs.FuGeom
open Go.Proofs.FuCrc Go.Proofs.FuCode
def zer (n : Nat) : List UInt8 := List.replicate n 0
def superHead (n : Nat) : List UInt8 := [4, 70, 85, 83, 69] ++ lay 4 n
def clockHead (v : Nat) : List UInt8 := [3] ++ lay 8 v
/-- nine bytes, their sum, noughts -/
def sgn (h : List UInt8) : List UInt8 := h ++ lay 4 (crc h) ++ zer 51
def superL (n : Nat) : List UInt8 := sgn (superHead n)
def clockL (v : Nat) : List UInt8 := sgn (clockHead v)
theorem zer_length (n : Nat) : (zer n).length = n := by simp [zer]
theorem superHead_length (n : Nat) : (superHead n).length = 9 := by simp [superHead, lay_length]
theorem clockHead_length (n : Nat) : (clockHead n).length = 9 := by simp [clockHead, lay_length]
theorem sgn_length {h : List UInt8} (hl : h.length = 9) : (sgn h).length = 64 := by simp [sgn, hl, lay_length, zer_length]
theorem superL_length (n : Nat) : (superL n).length = 64 := sgn_length (superHead_length n)
theorem clockL_length (n : Nat) : (clockL n).length = 64 := sgn_length (clockHead_length n)
theorem sgn_take {h : List UInt8} (hl : h.length = 9) : (sgn h).take 9 = h := by
  unfold sgn
  rw [List.append_assoc, List.take_append_of_le_length (by omega), List.take_of_length_le (by omega)]
theorem sgn_inj {h k : List UInt8} (hh : h.length = 9) (hk : k.length = 9) (e : sgn h = sgn k) : h = k := by rw [← sgn_take hh, ← sgn_take hk, e]
theorem over_sgn {h : List UInt8} (hl : h.length = 9) : over (h ++ zer 55) 9 (lay 4 (crc h)) = sgn h := by
  unfold over sgn
  rw [List.take_append_of_le_length (by omega), List.take_of_length_le (by omega), lay_length, List.drop_append, List.drop_eq_nil_of_le (by omega), hl]
  simp [zer]
theorem put_sgn {h : List UInt8} (hl : h.length = 9) : put (h ++ zer 55) 9 4 (crc h) = (sgn h, 0) := by
  have hc := crc_lt h
  have hw : wrong (h ++ zer 55).length 9 4 = 0 := by
    rw [List.length_append, hl, zer_length]
    decide
  unfold put
  rw [hw, if_neg (by omega), if_neg (by simp; omega)]
  simp [over_sgn hl]
theorem put_super (n : Nat) (h : n < 4294967296) : put [4, 70, 85, 83, 69, 0, 0, 0, 0] 5 4 n = (superHead n, 0) := by
  unfold put
  rw [show wrong ([4, 70, 85, 83, 69, 0, 0, 0, 0] : List UInt8).length 5 4 = 0 by decide, if_neg (by omega), if_neg (by simp; omega)]
  simp [over, superHead, lay_length]
theorem put_clock (v : Nat) (h : v < 18446744073709551616) : put [3, 0, 0, 0, 0, 0, 0, 0, 0] 1 8 v = (clockHead v, 0) := by
  unfold put
  rw [show wrong ([3, 0, 0, 0, 0, 0, 0, 0, 0] : List UInt8).length 1 8 = 0 by decide, if_neg (by omega), if_neg (by simp; omega)]
  simp [over, clockHead, lay_length]
/-- the number that stands in a superblock's line, a clock's line -/
def superNum (b : List UInt8) : Nat := num ((b.drop 5).take 4)
def clockNum (b : List UInt8) : Nat := num ((b.drop 1).take 8)
def isSuper (b : List UInt8) : Nat × Bool := if b.length = 64 ∧ 10 ≤ superNum b ∧ superNum b ≤ 258 ∧ b = superL (superNum b) then (superNum b, true) else (0, false)
def isClock (b : List UInt8) : Nat × Bool := if b.length = 64 ∧ b = clockL (clockNum b) then (clockNum b, true) else (0, false)
theorem superNum_lt (b : List UInt8) : superNum b < 4294967296 := by
  have h := num_lt ((b.drop 5).take 4)
  have h2 : ((b.drop 5).take 4).length ≤ 4 := by simp; omega
  have := Nat.pow_le_pow_right (n := 256) (by omega) h2
  unfold superNum
  omega
theorem clockNum_lt (b : List UInt8) : clockNum b < 18446744073709551616 := by
  have h := num_lt ((b.drop 1).take 8)
  have h2 : ((b.drop 1).take 8).length ≤ 8 := by simp; omega
  have := Nat.pow_le_pow_right (n := 256) (by omega) h2
  unfold clockNum
  omega
theorem superNum_superL (n : Nat) (h : n < 4294967296) : superNum (superL n) = n := by
  unfold superNum superL sgn superHead
  simp only [List.append_assoc, List.cons_append, List.nil_append, List.drop_succ_cons, List.drop_zero]
  rw [List.take_append_of_le_length (by rw [lay_length]; omega), List.take_of_length_le (by rw [lay_length]; omega), num_lay_lt]
  omega
theorem clockNum_clockL (n : Nat) (h : n < 18446744073709551616) : clockNum (clockL n) = n := by
  unfold clockNum clockL sgn clockHead
  simp only [List.append_assoc, List.cons_append, List.nil_append, List.drop_succ_cons, List.drop_zero]
  rw [List.take_append_of_le_length (by rw [lay_length]; omega), List.take_of_length_le (by rw [lay_length]; omega), num_lay_lt]
  omega
theorem isSuper_superL (n : Nat) (h1 : 10 ≤ n) (h2 : n ≤ 258) : isSuper (superL n) = (n, true) := by
  unfold isSuper
  rw [superNum_superL n (by omega), if_pos ⟨superL_length n, h1, h2, rfl⟩]
theorem isClock_clockL (n : Nat) (h : n < 18446744073709551616) : isClock (clockL n) = (n, true) := by
  unfold isClock
  rw [clockNum_clockL n h, if_pos ⟨clockL_length n, rfl⟩]
theorem head_of_sgn {h k : List UInt8} (hh : 0 < h.length) (hk : 0 < k.length) (e : sgn h = sgn k) : h[0] = k[0] := by
  have e1 : (sgn h)[0]? = some h[0] := by
    unfold sgn
    rw [List.append_assoc, List.getElem?_append_left hh, List.getElem?_eq_getElem hh]
  have e2 : (sgn k)[0]? = some k[0] := by
    unfold sgn
    rw [List.append_assoc, List.getElem?_append_left hk, List.getElem?_eq_getElem hk]
  rw [e, e2] at e1
  exact (Option.some.inj e1).symm
theorem super_ne_clock (n v : Nat) : superL n ≠ clockL v := by
  intro e
  have := head_of_sgn (h := superHead n) (k := clockHead v) (by rw [superHead_length]; omega) (by rw [clockHead_length]; omega) e
  simp [superHead, clockHead] at this
theorem isClock_superL (n : Nat) : isClock (superL n) = (0, false) := by
  unfold isClock
  rw [if_neg]
  rintro ⟨_, e⟩
  exact super_ne_clock _ _ e
theorem isSuper_clockL (n : Nat) : isSuper (clockL n) = (0, false) := by
  unfold isSuper
  rw [if_neg]
  rintro ⟨_, _, _, e⟩
  exact super_ne_clock _ _ e.symm
theorem isSuper_short {b : List UInt8} (h : b.length ≠ 64) : isSuper b = (0, false) := by
  unfold isSuper
  rw [if_neg]
  exact fun e => h e.1
theorem isClock_short {b : List UInt8} (h : b.length ≠ 64) : isClock b = (0, false) := by
  unfold isClock
  rw [if_neg]
  exact fun e => h e.1
/-- a sealed line of which one byte is another one is not sealed by the same head's bytes -/
theorem sgn_turn {h k : List UInt8} (hh : h.length = 9) (hk : k.length = 9) (i : Nat) (hi : i < 64) (y : UInt8) (hy : (sgn h)[i]? ≠ some y) (e : (sgn h).set i y = sgn k) : False := by
  have hl := sgn_length hh
  by_cases h9 : i < 9
  · -- a byte of the head: the sums differ, but lie the same
    have e1 : k = h.set i y := by
      have := congrArg (List.take 9) e
      rw [sgn_take hk, List.take_set, sgn_take hh] at this
      exact this.symm
    have e2 : ((sgn h).set i y).drop 9 = (sgn h).drop 9 := by
      rw [List.drop_set_of_lt (by omega)]
    rw [e] at e2
    have hdrop : ∀ m : List UInt8, m.length = 9 → (sgn m).drop 9 = lay 4 (crc m) ++ zer 51 := fun m hm => by
      unfold sgn
      rw [List.append_assoc, List.drop_append, List.drop_eq_nil_of_le (by omega), hm]
      simp
    rw [hdrop k hk, hdrop h hh] at e2
    have e3 := List.append_cancel_right e2
    have e4 := congrArg num e3
    rw [num_lay_lt 4 _ (by have := crc_lt k; simpa using this), num_lay_lt 4 _ (by have := crc_lt h; simpa using this)] at e4
    have hne : y ≠ h[i]'(by omega) := by
      intro hy2
      apply hy
      unfold sgn
      rw [List.append_assoc, List.getElem?_append_left (by omega), List.getElem?_eq_getElem (by omega), hy2]
    rw [e1] at e4
    exact crc_turn h i (by omega) y hne e4
  · -- a byte behind the head: the heads are the same
    have e1 : k = h := by
      have := congrArg (List.take 9) e
      rw [sgn_take hk, List.take_set_of_le (by omega), sgn_take hh] at this
      exact this.symm
    rw [e1] at e
    have e2 := congrArg (fun l => l[i]?) e
    simp only [List.getElem?_set, if_true] at e2
    rw [if_pos (by omega)] at e2
    exact hy e2.symm
theorem isClock_turn (v i : Nat) (hi : i < 64) (y : UInt8) (hy : (clockL v)[i]? ≠ some y) : isClock ((clockL v).set i y) = (0, false) := by
  unfold isClock
  rw [if_neg]
  rintro ⟨_, e⟩
  exact sgn_turn (clockHead_length v) (clockHead_length _) i hi y hy e
theorem isSuper_turn (v i : Nat) (hi : i < 64) (y : UInt8) (hy : (superL v)[i]? ≠ some y) : isSuper ((superL v).set i y) = (0, false) := by
  unfold isSuper
  rw [if_neg]
  rintro ⟨_, _, _, e⟩
  exact sgn_turn (superHead_length v) (superHead_length _) i hi y hy e
end Go.Proofs.FuGeom
/- The contracts of package geom on lines. -/
namespace Go.Proofs.Ytecdalmnndalgaa
open Go.RowKit Go.Proofs.FuMem Go.Proofs.FuCode Go.Proofs.FuCrc Go.Proofs.FuGeom
set_option maxRecDepth 100000
theorem rowSize : (Try.prog.info? 97).map (·.size) = some 64 := by kernel_rfl
theorem rowZero : (Try.prog.info? 97).map (·.zero) = some (some (arrV (zer 64))) := by kernel_rfl
theorem rowGuard : Try.prog.eqGuardType Try.prog.depth 97 = false := by kernel_rfl
theorem byteSize : (Try.prog.info? 5).map (·.size) = some 1 := by kernel_rfl
set_option maxHeartbeats 400000 in
theorem geom_sealed (A : Option Addr) (c : Nat) (l : List UInt8) (w : World) (h : Bs w A 9 l) :
    Calls Try.prog 69 #[.slice A 9 c] w fun e w' => e = .returned (arrV (sgn l)) ∧ Only [] w w' := by
  have HB := Lib.hid h
  have HL := Lib.hid h.len
  clear h
  have hc := crc_lt l
  have hlen : (l ++ zer 55).length = 64 := by rw [List.length_append, HL.out, zer_length]
  have hput : ∀ (w' : World) (b : Nat), Bs w' (some ⟨b, 0, none⟩) 64 (l ++ zer 55) → Calls Try.prog 68 #[.slice (some ⟨b, 0, none⟩) 64 64, .int .i64 9, .int .i64 4, .int .u64 (crc l)] w' fun e w'' => ∃ A c, e = .returned (.tuple #[.slice A 64 c, .int .i64 0]) ∧ Bs w'' A 64 (sgn l) ∧ Only [] w' w'' := fun w' b hb => by
    have h1 := code_Put _ 64 64 (l ++ zer 55) 9 4 (crc l) w' hb (by omega) (by omega) (by omega) (by omega)
    rw [put_sgn HL.out] at h1
    refine h1.mono ?_
    rintro e w'' ⟨_, rfl, A1, c1, rfl, ho, on⟩
    rw [sgn_length HL.out] at ho ⊢
    exact ⟨A1, c1, rfl, bs_own ho, on⟩
  have HP := Lib.hid hput
  clear hput
  go_enter Try.func69, Try.ntmps69
  go_wp2_with (first
    | ((with_reducible show wpList _ _ _ (Oper.mk (some 2) _ _ _ _ _ :: _) _ _); refine wpList_alloc_arr rfl 97 rfl _ rowZero ?_; intro w1 hb1 ho1 hs1)
    | ((with_reducible show wpList _ _ _ (Oper.mk (some 3) _ _ _ _ _ :: _) _ _); refine wpList_alloc_arr rfl 97 rfl _ rowZero ?_; intro w2 hb2 ho2 hs2; rw [hs1] at hb2 hs2)
    | ((with_reducible show wpList _ _ _ (Oper.mk (some 8) _ _ _ _ _ :: _) _ _); refine wpList_copy_arr rfl (.tmp 6) (.tmp 7) 48 48 rfl 5 Try.underlying48 byteSize _ 0 64 64 A 9 c rfl rfl _ _ hb2 (by simp [zer]) l ((HB.out.only0 ho1).only0 ho2) ?_; intro w3 hb3 ho3 hs3))
  have e3 : over (zer 64) 0 (l.take 64) = l ++ zer 55 := by
    rw [List.take_of_length_le (by rw [HL.out]; omega)]
    unfold over
    rw [HL.out]
    simp [zer]
  rw [e3] at hb3
  clear e3
  have hb1' := (hb1.only ho2 (by simp)).only ho3 (by simp)
  have hbl := ((HB.out.only0 ho1).only0 ho2).only ho3 (by
    intro b off s e hb
    rw [List.mem_singleton] at hb
    subst hb
    exact absurd (Sl.lt HB.out (by omega) e) (by omega))
  have on3 := (ho1.trans0 ho2).trans ho3 (by simp)
  have B3 := hb3.bs
  rw [hlen] at B3
  have HB3 := Lib.hid B3
  have HA3 := Lib.hid hb3
  have HA1 := Lib.hid hb1'
  have HBL := Lib.hid hbl
  have HO3 := Lib.hid on3
  clear hb1 ho1 hb2 ho2 hb3 ho3 hb1' hbl on3 hlen B3
  have hw64 : IntKind.u64.wrap ((crc l : Nat) : Int) = (crc l : Int) := by rw [IntKind.wrap_u64]; omega
  go_region_with (first
    | (go_at_call 76; refine (sum_Sum A 9 c l _ (by exact HBL.out.only0 (Only.refl _ _).drew) (by decide)).mono ?_; rintro e w' ⟨rfl, rfl⟩)
    | (go_at_call 68; refine (HP.out _ _ (by exact HB3.out.only0 (Only.refl _ _).drew)).mono ?_; rintro e w4 ⟨A4, c4, rfl, b4, o4⟩))
  have o34 := (Only.refl [] w3).drew.trans0 o4
  have a4 := HA3.out.only o34 (by simp)
  have a4' := HA1.out.only o34 (by simp)
  have on4 := HO3.out.trans0 o34
  have hbs := sgn_length HL.out
  have h4s := o34.size
  have HA4 := Lib.hid a4
  have HA4' := Lib.hid a4'
  have HN4 := Lib.hid on4
  have HB4 := Lib.hid b4
  have HLS := Lib.hid hbs
  clear o34 a4 a4' on4 hbs b4 o4 hw64 HA3 HA1 HO3 HBL HB3 HP
  have X1 := HA4.out
  have X2 := HB4.out
  have hl64 : (l ++ zer 55).length = 64 := by rw [List.length_append, HL.out, zer_length]
  have X3 : 0 + 64 ≤ (l ++ zer 55).length := by omega
  have X4 : (Try.prog.info? 97).map (·.size) = some (sgn l).length := by rw [HLS.out]; exact rowSize
  have X5 : (zer 64).length = (sgn l).length := by rw [HLS.out]; simp [zer]
  have X6 := over_all (sgn l) (l ++ zer 55) 64 HLS.out hl64
  have H6 := Lib.hid X6
  have H4 := Lib.hid X4
  have H5 := Lib.hid X5
  clear X4 X5 X6 hl64
  go_wp2_with (first
    | ((with_reducible show wpList _ _ _ (Oper.mk (some 19) _ _ _ _ _ :: _) _ _); refine wpList_copy_arr rfl (.tmp 17) (.tmp 18) 48 48 rfl 5 Try.underlying48 byteSize (w.heap.size + 1) 0 64 64 A4 64 c4 rfl rfl _ _ X1 X3 (sgn l) X2 ?_; intro w5 hb5 ho5 hs5; rw [H6.out] at hb5; have Y1 := hb5.bs; have Y2 := HA4'.out.only ho5 (by simp))
    | ((with_reducible show wpList _ _ _ (Oper.mk (some 20) _ _ _ _ _ :: _) _ _); refine wpList_load_arr rfl 97 (.tmp 3) rfl (w.heap.size + 1) 0 rfl (sgn l) Y1 64 5 Try.underlying97 H4.out ?_)
    | ((with_reducible show wpList _ _ _ (Oper.mk none _ _ _ _ _ :: _) _ _); refine wpList_store_arr rfl 97 (.tmp 2) (.tmp 20) rfl w.heap.size (sgn l) rfl rfl _ (zer 64) Y2 H5.out H4.out ?_; intro w6 hb6 ho6 hs6))
  refine bodyPost_ret (v := arrV (sgn l)) (results_cell_row rfl _ _ _ _ _ _ _ rfl hb6 Try.underlying97 rfl (by rw [rowSize]; simp [HLS.out])) rfl ⟨rfl, (HN4.out.trans ho5 ?_).trans ho6 ?_⟩
  all_goals simp
end Go.Proofs.Ytecdalmnndalgaa
/- The contracts of package geom on lines, second part. -/
namespace Go.Proofs.Ytecdalmnndalgaa
open Go.RowKit Go.Proofs.FuMem Go.Proofs.FuCode Go.Proofs.FuCrc Go.Proofs.FuGeom
set_option maxRecDepth 100000
theorem nine (w : World) (g : Nat) (hg : g = w.heap.size) (a b c d e f h i j : UInt8) (xs : Array Value) (hx : xs = ([a, b, c, d, e, f, h, i, j].map B).toArray) :
    Bs (w.alloc (.cells xs 5)) (some ⟨g, 0, none⟩) 9 [a, b, c, d, e, f, h, i, j] := by
  subst hg hx
  exact Sl.of_blk (Blk.new w 5 _) 0 (by simp) (by simp)
set_option maxHeartbeats 400000 in
theorem geom_clock (v : Nat) (w : World) (hv : v < 18446744073709551616) :
    Calls Try.prog 46 #[.int .u64 v] w fun e w' => e = .returned (arrV (clockL v)) ∧ Only [] w w' := by
  have hp : ∀ (w' : World) (b : Nat), Bs w' (some ⟨b, 0, none⟩) 9 [3, 0, 0, 0, 0, 0, 0, 0, 0] → Calls Try.prog 68 #[.slice (some ⟨b, 0, none⟩) 9 9, .int .i64 1, .int .i64 8, .int .u64 v] w' fun e w'' => ∃ A c, e = .returned (.tuple #[.slice A 9 c, .int .i64 0]) ∧ Bs w'' A 9 (clockHead v) ∧ Only [] w' w'' := fun w' b hb => by
    have h1 := code_Put _ 9 9 _ 1 8 v w' hb (by omega) (by omega) (by omega) (by omega)
    rw [put_clock v hv] at h1
    refine h1.mono ?_
    rintro e w'' ⟨_, rfl, A1, c1, rfl, ho, on⟩
    rw [clockHead_length] at ho ⊢
    exact ⟨A1, c1, rfl, bs_own ho, on⟩
  have HP := Lib.hid hp
  have hL : (Try.prog.info? 97).map (·.size) = some (clockL v).length := by rw [clockL_length]; exact rowSize
  have hZ : (zer 64).length = (clockL v).length := by rw [clockL_length]; simp [zer]
  have HL := Lib.hid hL
  have HZ := Lib.hid hZ
  clear hp hL hZ
  go_enter Try.func46, Try.ntmps46
  go_wp2_with ((with_reducible show wpList _ _ _ (Oper.mk (some 2) _ _ _ _ _ :: _) _ _); refine wpList_alloc_arr rfl 97 rfl _ rowZero ?_; intro w1 hb1 ho1 hs1)
  refine (HP.out _ _ (by exact nine w1 _ (by simp [hs1]) 3 0 0 0 0 0 0 0 0 _ rfl)).mono ?_
  rintro e w2 ⟨A2, c2, rfl, b2, o2⟩
  have on1 := (Only.refl [] w1).alloc (.cells ([3, 0, 0, 0, 0, 0, 0, 0, 0].map B).toArray 5)
  have hx := hb1.only (on1.trans0 o2) (by simp)
  have HX := Lib.hid hx
  have HB := Lib.hid b2
  have HN := Lib.hid (ho1.trans0 (on1.trans0 o2))
  have hsz := (ho1.trans0 (on1.trans0 o2)).size
  clear on1 hx b2 o2 hb1 ho1
  go_wp2_with fail
  refine (geom_sealed A2 c2 (clockHead v) _ HB.out).mono ?_
  rintro e w3 ⟨rfl, o3⟩
  have hx3 := HX.out.only o3 (by simp)
  have HN3 := Lib.hid (HN.out.trans0 o3)
  have hZ := HZ.out
  have hL := HL.out
  have HX3 := Lib.hid hx3
  clear o3 hx3
  go_wp2_with ((with_reducible show wpList _ _ _ (Oper.mk none _ _ _ _ _ :: _) _ _); refine wpList_store_arr rfl 97 (.tmp 2) (.tmp 12) rfl w.heap.size (clockL v) rfl rfl _ (zer 64) HX3.out HZ.out HL.out ?_; intro w6 hb6 ho6 hs6)
  refine bodyPost_ret (v := arrV (clockL v)) (results_cell_row rfl _ _ _ _ _ _ _ rfl hb6 Try.underlying97 rfl (by rw [rowSize]; simp [clockL_length])) rfl ⟨rfl, HN3.out.trans ho6 ?_⟩
  simp
end Go.Proofs.Ytecdalmnndalgaa
/- The contracts of package geom on lines, third part: what is told of bytes. -/
namespace Go.Proofs.Ytecdalmnndalgaa
open Go.RowKit Go.Proofs.FuMem Go.Proofs.FuCode Go.Proofs.FuCrc Go.Proofs.FuGeom
set_option maxRecDepth 100000
theorem geom_whole_no (A : Option Addr) (n c : Nat) (w : World) (_hn : n ≤ maxLen) (h64 : n ≠ 64) :
    Calls Try.prog 44 #[.slice A n c] w fun e w' => e = .returned (.tuple #[arrV (zer 64), .bool false]) ∧ Only [] w w' := by
  have d1 : ((n : Int) != 64) = true := by rw [bne_iff_ne]; omega
  have hL : (Try.prog.info? 97).map (·.size) = some (zer 64).length := by rw [zer_length]; exact rowSize
  obtain ⟨i0, hi, hz0, hz1, hz2⟩ := info_parts Try.byteInfo
  have HL := Lib.hid hL
  have HI := Lib.hid hi
  clear hL hi hz0 hz1 hz2 h64
  go_enter Try.func44, Try.ntmps44
  go_wp2_with (first
    | ((with_reducible show wpList _ _ _ (Oper.mk (some 2) _ _ _ _ _ :: _) _ _); refine wpList_alloc_arr rfl 97 rfl _ rowZero ?_; intro w1 hb1 ho1 hs1)
    | ((with_reducible show wpList _ _ _ (Oper.mk (some 7) _ _ _ _ _ :: _) _ _); refine wpList_build_zero rfl 97 rfl (zer 64) rowZero 64 5 Try.underlying97 i0 HI.out ?_)
    | ((with_reducible show wpList _ _ _ (Oper.mk none _ _ _ _ _ :: _) _ _); refine wpList_store_arr rfl 97 (.tmp 2) (.tmp 7) rfl w.heap.size (zer 64) rfl rfl _ (zer 64) hb1 rfl HL.out ?_; intro w6 hb6 ho6 hs6))
  refine bodyPost_ret (results_arr_tmp rfl _ _ _ _ hb6 rfl 64 5 Try.underlying97 HL.out) rfl ⟨rfl, ho1.trans ho6 ?_⟩
  simp
theorem geom_whole_yes (b off c : Nat) (l : List UInt8) (w : World) (h : Bs w (some ⟨b, off, none⟩) 64 l) :
    Calls Try.prog 44 #[.slice (some ⟨b, off, none⟩) 64 c] w fun e w' => e = .returned (.tuple #[arrV l, .bool true]) ∧ Only [] w w' := by
  have hl := h.len
  have hL : (Try.prog.info? 97).map (·.size) = some l.length := by rw [hl]; exact rowSize
  have hZ : (zer 64).length = l.length := by rw [hl]; simp [zer]
  have h' := h
  rw [← hl] at h'
  have HX := Lib.hid h'
  have HL := Lib.hid hL
  have HZ := Lib.hid hZ
  have harr : ∀ w, (Instr.arrayAt 97 (.slice (some ⟨b, off, none⟩) 64 c)).run Try.prog w = .ok (.pointer (some ⟨b, off, none⟩)) w := fun w => by simp [Instr.arrayAt, run_underlying Try.underlying97]
  clear h h' hl hL hZ
  go_enter Try.func44, Try.ntmps44
  go_wp2_with (first
    | ((with_reducible show wpList _ _ _ (Oper.mk (some 2) _ _ _ _ _ :: _) _ _); refine wpList_alloc_arr rfl 97 rfl _ rowZero ?_; intro w1 hb1 ho1 hs1; have hx := HX.out.only0 ho1)
    | ((with_reducible show wpList _ _ _ (Oper.mk (some 10) _ _ _ _ _ :: _) _ _); refine wpList_load_arr rfl 97 (.tmp 9) rfl b off rfl l hx 64 5 Try.underlying97 HL.out ?_)
    | ((with_reducible show wpList _ _ _ (Oper.mk none _ _ _ _ _ :: _) _ _); refine wpList_store_arr rfl 97 (.tmp 2) (.tmp 10) rfl w.heap.size l rfl rfl _ (zer 64) hb1 HZ.out HL.out ?_; intro w6 hb6 ho6 hs6))
  refine bodyPost_ret (results_arr_tmp rfl _ _ _ _ hb6 rfl 64 5 Try.underlying97 HL.out) rfl ⟨rfl, ho1.trans ho6 ?_⟩
  simp
theorem geom_Clock (v : Nat) (w : World) (hv : v < 18446744073709551616) :
    Calls Try.prog 74 #[.int .u64 v] w fun e w' => ∃ g, e = .returned (.slice (some ⟨g, 0, none⟩) 64 64) ∧ Arr w' g 97 (clockL v) ∧ w.heap.size ≤ g ∧ Only [] w w' := by
  have hL : (Try.prog.info? 97).map (·.size) = some (clockL v).length := by rw [clockL_length]; exact rowSize
  have hZ : (zer 64).length = (clockL v).length := by rw [clockL_length]; simp [zer]
  have HL := Lib.hid hL
  have HZ := Lib.hid hZ
  clear hL hZ
  go_enter Try.func74, Try.ntmps74
  go_wp2_with fail
  refine (geom_clock v _ hv).mono ?_
  rintro e w1 ⟨rfl, o1⟩
  have h1 := o1.size
  go_wp2_with (first
    | ((with_reducible show wpList _ _ _ (Oper.mk (some 3) _ _ _ _ _ :: _) _ _); refine wpList_alloc_arr rfl 97 rfl _ rowZero ?_; intro w2 hb2 ho2 hs2)
    | ((with_reducible show wpList _ _ _ (Oper.mk none _ _ _ _ _ :: _) _ _); refine wpList_store_arr rfl 97 (.tmp 3) (.tmp 5) rfl w1.heap.size (clockL v) rfl rfl _ (zer 64) hb2 HZ.out HL.out ?_; intro w6 hb6 ho6 hs6))
  go_ret
  exact ⟨w1.heap.size, rfl, hb6, h1, (o1.trans0 ho2).trans ho6 (by simpa using h1)⟩
end Go.Proofs.Ytecdalmnndalgaa
/- The contracts of geom.IsClock, geom.IsSuper. -/
namespace Go.Proofs.Ytecdalmnndalgaa
open Go.RowKit Go.Proofs.FuMem Go.Proofs.FuCode Go.Proofs.FuCrc Go.Proofs.FuGeom
set_option maxRecDepth 100000
theorem neq_row (l k : List UInt8) (hl : l.length = 64) (hk : k.length = 64) (w : World) : (binOp .neq 97 (arrV l) (arrV k)).run Try.prog w = .ok (.bool (l != k)) w := by
  obtain ⟨i0, hi, hz0, hz1, hz2⟩ := info_parts Try.byteInfo
  exact run_neq_arr Try.underlying97 Try.underlying5 i0 hi hz1 l k hl hk w
theorem geom_IsClock_no (A : Option Addr) (n c : Nat) (w : World) (hn : n ≤ maxLen) (h64 : n ≠ 64) :
    Calls Try.prog 24 #[.slice A n c] w fun e w' => e = .returned (.tuple #[.int .u64 0, .bool false]) ∧ Only [] w w' := by
  have hL : (Try.prog.info? 97).map (·.size) = some (zer 64).length := by rw [zer_length]; exact rowSize
  have HL := Lib.hid hL
  have HW := Lib.hid (geom_whole_no A n c w hn h64)
  clear hL h64
  go_enter Try.func24, Try.ntmps24
  go_wp2_with fail
  refine (HW.out).mono ?_
  rintro e w1 ⟨rfl, o1⟩
  have h1 := o1.size
  go_wp2_with (first
    | ((with_reducible show wpList _ _ _ (Oper.mk (some 4) _ _ _ _ _ :: _) _ _); refine wpList_alloc_arr rfl 97 rfl _ rowZero ?_; intro w2 hb2 ho2 hs2)
    | ((with_reducible show wpList _ _ _ (Oper.mk none _ _ _ _ _ :: _) _ _); refine wpList_store_arr rfl 97 (.tmp 4) (.tmp 11) rfl w1.heap.size (zer 64) rfl rfl _ (zer 64) hb2 rfl HL.out ?_; intro w6 hb6 ho6 hs6))
  go_ret2
  exact ⟨rfl, (o1.trans0 ho2).trans ho6 (by simpa using h1)⟩
set_option maxHeartbeats 400000 in
theorem geom_IsClock_yes (b off c : Nat) (l : List UInt8) (w : World) (h : Bs w (some ⟨b, off, none⟩) 64 l) :
    Calls Try.prog 24 #[.slice (some ⟨b, off, none⟩) 64 c] w fun e w' => e = .returned (.tuple #[.int .u64 (isClock l).1, .bool (isClock l).2]) ∧ Only [] w w' := by
  have hl := h.len
  have hv := clockNum_lt l
  have hL : (Try.prog.info? 97).map (·.size) = some l.length := by rw [hl]; exact rowSize
  have hZ : (zer 64).length = l.length := by rw [hl]; simp [zer]
  have HW := Lib.hid (geom_whole_yes b off c l w h)
  have hget : ∀ w', Bs w' (some ⟨b, off, none⟩) 64 l → Calls Try.prog 45 #[.slice (some ⟨b, off, none⟩) 64 c, .int .i64 1, .int .i64 8] w' fun e w'' => e = .returned (.tuple #[.int .u64 (clockNum l), .int .i64 0]) ∧ w' = w'' := fun w' hb => by
    have := code_Get (some ⟨b, off, none⟩) 64 c l 1 8 w' hb (by omega) (by omega) (by omega)
    unfold cget at this
    rw [hl, show wrong 64 1 8 = 0 by decide, if_neg (by omega)] at this
    exact this
  have hk := clockL_length (clockNum l)
  have hcl := fun w => geom_clock (clockNum l) w hv
  have hres : isClock l = if l = clockL (clockNum l) then (clockNum l, true) else (0, false) := by
    unfold isClock
    simp [hl]
  rw [hres]
  generalize clockNum l = v at *
  generalize clockL v = k at *
  have hq := neq_row l k hl hk
  have hg := fun (x y : Operand) (w : World) => eqGuard_arr (P := Try.prog) rowGuard .neq x y l k w
  have HL := Lib.hid hL
  have HZ := Lib.hid hZ
  have HX := Lib.hid h
  have HG := Lib.hid hget
  have HC := Lib.hid hcl
  have HQ := Lib.hid hq
  have HE := Lib.hid hg
  have HLL := Lib.hid hl
  clear hL hZ h hget hcl hq hg hl hk hres
  have core : ∀ t : Bool, (∀ w, (binOp .neq 97 (arrV l) (arrV k)).run Try.prog w = .ok (.bool t) w) →
      Calls Try.prog 24 #[.slice (some ⟨b, off, none⟩) 64 c] w fun e w' => e = .returned (.tuple #[.int .u64 (if t = true then 0 else (v : Int)), .bool (!t)]) ∧ Only [] w w' := by
    intro t hq
    have HQT := Lib.hid hq
    clear hq
    cases t
    all_goals
      go_enter Try.func24, Try.ntmps24
      go_wp2_with fail
      refine (HW.out).mono ?_
      rintro e w1 ⟨rfl, o1⟩
      have h1 := o1.size
      go_wp2_with (first
        | ((with_reducible show wpList _ _ _ (Oper.mk (some 4) _ _ _ _ _ :: _) _ _); refine wpList_alloc_arr rfl 97 rfl _ rowZero ?_; intro w2 hb2 ho2 hs2)
        | ((with_reducible show wpList _ _ _ (Oper.mk none _ _ _ _ _ :: _) _ _); refine wpList_store_arr rfl 97 (.tmp 4) (.tmp 11) rfl w1.heap.size l rfl rfl _ (zer 64) hb2 HZ.out HL.out ?_; intro w3 hb3 ho3 hs3))
      have on3 : Only [] w w3 := (o1.trans0 ho2).trans ho3 (by simpa using h1)
      have hB3 := hb3.bs
      have hx3 := HX.out.only0 on3
      have HX3 := Lib.hid hx3
      have HN3 := Lib.hid on3
      have HB3 := Lib.hid hB3
      clear on3 hB3 hx3 hb3 ho3 ho2 hb2 o1
      refine (HG.out _ HX3.out).mono ?_
      rintro e w' ⟨rfl, rfl⟩
      go_wp2
      have hqt := HQT.out
      have hge := HE.out
      refine wp_region_later w3 (by kernel_rfl) (by kernel_rfl) ?_
      refine later_load rfl 97 (.tmp 4) rfl w1.heap.size 0 rfl l HB3.out 64 5 Try.underlying97 HL.out ?_
      repeat (quiet_step (fail))
      quiet_step (exact Calls.later (HC.out _))
      repeat (quiet_step (fail))
      refine wpQuiet_nil ?_
      intro _ hw'
      obtain ⟨p, hw''⟩ := hw'
      subst hw''
      clear hqt hge
      have HP := Lib.hid (HN3.out.trans0 p.only)
      go_wp2
      go_ret2
      exact ⟨rfl, HP.out⟩
  by_cases hlk : l = k
  · have := core false (fun w => by rw [HQ.out w]; simp [hlk])
    rw [if_pos hlk]
    exact this
  · have := core true (fun w => by rw [HQ.out w]; simp [hlk])
    rw [if_neg hlk]
    exact this
end Go.Proofs.Ytecdalmnndalgaa
/- The walks of the statements on sum. -/
namespace Go.Proofs.Ytecdalmnndalgaa
open Go.RowKit Go.Proofs.FuCrc Go.Proofs.FuMem
set_option maxRecDepth 100000
theorem ref1_Sum (A : Option Addr) (n cap : Nat) (l : List UInt8) (w : World) (hb : Bs w A n l) (hn : n ≤ maxLen) :
    Calls Try.prog 77 #[.slice A n cap] w fun e w' => e = .returned (.int .u32 (crc l)) ∧ w = w' := by
  have h1 := run_str (P := Try.prog) Try.underlying48 Try.underlying5 Try.underlying9 hb cap
  have hs : (ByteArray.mk l.toArray).size ≤ maxLen := by rw [show (ByteArray.mk l.toArray).size = l.length from rfl, hb.len]; exact hn
  clear hb
  go_enter Try.func77, Try.ntmps77
  go_wp2_with (go_at_call 81; refine (ref1_Text _ _ hs).mono ?_; rintro e w' ⟨rfl, rfl⟩)
  go_ret
  exact ⟨rfl, rfl⟩
theorem crc_digits : crc [49, 50, 51, 52, 53, 54, 55, 56, 57] = 3421780262 := by decide +kernel
end Go.Proofs.Ytecdalmnndalgaa
/- The contracts of the reference of chapter 4 on lines; of Slabs on both sides. -/
namespace Go.Proofs.Ytecdalmnndalgaa
open Go.RowKit Go.Proofs.FuMem Go.Proofs.FuCode Go.Proofs.FuCrc Go.Proofs.FuGeom
set_option maxRecDepth 100000
def slabsOf (n : Int) : Int := if n < 10 then 0 else if 258 < n then 32 else (n - 2) / 8
theorem slabsOf_mid {n : Int} (h1 : 10 ≤ n) (h2 : n ≤ 258) : slabsOf n = (n - 2) / 8 := by unfold slabsOf; rw [if_neg (by omega), if_neg (by omega)]
theorem slabsOf_hi {n : Int} (h1 : 258 ≤ n) : slabsOf n = 32 := by unfold slabsOf; split; omega; split <;> omega
def padTo (h : List UInt8) (j : Nat) : List UInt8 := h ++ lay 4 (crc h) ++ zer (j - 13)
theorem padTo_length {h : List UInt8} (hl : h.length = 9) (j : Nat) (hj : 13 ≤ j) : (padTo h j).length = j := by simp [padTo, hl, lay_length, zer_length]; omega
theorem padTo_13 (h : List UInt8) : padTo h 13 = h ++ lay 4 (crc h) := by simp [padTo, zer]
theorem padTo_64 (h : List UInt8) : padTo h 64 = sgn h := rfl
theorem padTo_succ (h : List UInt8) (j : Nat) (hj : 13 ≤ j) : (padTo h j).map B ++ [Value.int .u8 0] = (padTo h (j + 1)).map B := by
  unfold padTo
  rw [show j + 1 - 13 = (j - 13) + 1 by omega]
  simp [zer, List.replicate_succ', B]
theorem ref4_whole {w0 : World} (A : Option Addr) (c : Nat) (l : List UInt8) (w : World) (h : w.ownsRow w0.heap.size 5 1 (.slice A 9 c) 9 (l.map B)) (on : Only [] w0 w) :
    Calls Try.prog 70 #[.slice A 9 c] w fun e w' => ∃ A' c', e = .returned (.slice A' 64 c') ∧ w'.ownsRow w0.heap.size 5 1 (.slice A' 64 c') 64 ((sgn l).map B) ∧ Only [] w0 w' := by
  have hl : l.length = 9 := by simpa using h.1
  have hc := crc_lt l
  have hs := ref1_Sum A 9 c l w (bs_own h) (by decide)
  have hlay := fun w => ref2_Lay 4 (crc l) w (by omega) (by omega)
  obtain ⟨i0, hi, hz0, hz1, hz2⟩ := info_parts Try.byteInfo
  have HI := Lib.hid hi
  have HZ0 := Lib.hid hz0
  have HZ1 := Lib.hid hz1
  have HZ2 := Lib.hid hz2
  have HO := Lib.hid h
  have HN := Lib.hid on
  have HL := Lib.hid hl
  have HS := Lib.hid hs
  have HY := Lib.hid hlay
  clear h on hl hs hlay hi hz0 hz1 hz2
  go_enter Try.func70, Try.ntmps70
  go_wp2_with fail
  refine (HS.out).mono ?_
  rintro e w' ⟨rfl, rfl⟩
  go_wp2_with fail
  refine (HY.out _).mono ?_
  rintro e w1 ⟨_, rfl, A1, c1, rfl, m1, o1⟩
  rw [lay_length] at m1 ⊢
  have hown := own_only HO.out o1 (by simp)
  have hon := HN.out.trans0 o1
  obtain ⟨A2, c2, w2, hr, ho2, hs2, on2⟩ := append_own (P := Try.prog) w1 hon 48 48 5 i0 _ 1 Try.underlying48 HI.out HZ0.out HZ1.out HZ2.out rfl _ 9 _ hown A1 4 c1 _ (Sl.of_own m1) one_B (by unfold maxLen; omega) (by omega)
  rw [← List.map_append, ← padTo_13] at ho2
  have H2 := Lib.hid ho2
  have N2 := Lib.hid on2
  clear hown hon ho2 hs2 on2 m1 o1
  go_wp2_with (at_builtin; refine wpList_append_run _ rfl (.tmp 3) (.tmp 7) 48 rfl _ _ rfl rfl _ _ hr ?_)
  go_loopw [0] (fun b wr => ∃ (j : Nat) (A : Option Addr) (c : Nat), 13 ≤ j ∧ j ≤ 64 ∧ b = .slice A j c ∧ wr.ownsRow w0.heap.size 5 1 (.slice A j c) j ((padTo l j).map B) ∧ Only [] w0 wr) (fun b _ => 64 - (match b with | .slice _ n _ => n | _ => 0))
  case atStart => exact ⟨13, A2, c2, by omega, by omega, rfl, H2.out, N2.out⟩
  case round =>
    obtain ⟨j, A3, c3, hj1, hj2, rfl, ho, on⟩ := hrel
    by_cases hlt : j < 64
    · obtain ⟨A4, c4, w4, hr4, ho4, hs4, on4⟩ := append_own (P := Try.prog) (wr.alloc (.cells #[.int .u8 0] 5)) (on.alloc _) 48 48 5 i0 _ 1 Try.underlying48 HI.out HZ0.out HZ1.out HZ2.out rfl _ j _ (ho.alloc _) (some ⟨wr.heap.size, 0, none⟩) 1 1 [.int .u8 0] (cell_new1 _ _ _) (ints_new1 _ _) (by unfold maxLen; omega) (by omega)
      rw [padTo_succ l j hj1] at ho4
      have H4 := Lib.hid ho4
      have N4 := Lib.hid on4
      clear ho on ho4 hs4 on4 hr
      go_wp2_with (at_builtin; refine wpList_append_run _ rfl (.tmp 12) (.tmp 13) 48 rfl _ _ rfl rfl _ _ hr4 ?_)
      go_roundw
      case rel => exact ⟨j + 1, A4, c4, by omega, by omega, rfl, H4.out, N4.out⟩
      case measure => simp; omega
    · obtain rfl : j = 64 := by omega
      rw [padTo_64] at ho
      have H4 := Lib.hid ho
      have N4 := Lib.hid on
      clear ho on hr
      go_wp2
      go_ret
      exact ⟨A3, c3, rfl, H4.out, N4.out⟩
end Go.Proofs.Ytecdalmnndalgaa
/- The contracts of the reference of chapter 4 on lines, second part. -/
namespace Go.Proofs.Ytecdalmnndalgaa
open Go.RowKit Go.Proofs.FuMem Go.Proofs.FuCode Go.Proofs.FuCrc Go.Proofs.FuGeom
set_option maxRecDepth 100000
theorem ref4_Clock (v : Nat) (w : World) (hv : v < 18446744073709551616) :
    Calls Try.prog 50 #[.int .u64 v] w fun e w' => ∃ A c, e = .returned (.slice A 64 c) ∧ w'.ownsRow w.heap.size 5 1 (.slice A 64 c) 64 ((clockL v).map B) ∧ Only [] w w' := by
  have hlay := fun w => ref2_Lay 8 v w (by omega) hv
  have ho0 : (w.alloc (.cells #[.int .u8 3] 5)).ownsRow w.heap.size 5 1 (.slice (some ⟨w.heap.size, 0, none⟩) 1 1) 1 [.int .u8 3] := World.ownsRow_lit w #[.int .u8 3] 1 (Nat.le_refl _) (by decide) rfl
  have hn0 : Only [] w (w.alloc (.cells #[.int .u8 3] 5)) := (Only.refl _ _).alloc _
  obtain ⟨i0, hi, hz0, hz1, hz2⟩ := info_parts Try.byteInfo
  have HI := Lib.hid hi
  have HZ0 := Lib.hid hz0
  have HZ1 := Lib.hid hz1
  have HZ2 := Lib.hid hz2
  have HY := Lib.hid hlay
  have HO0 := Lib.hid ho0
  have HN0 := Lib.hid hn0
  clear hlay hi hz0 hz1 hz2 ho0 hn0
  go_enter Try.func50, Try.ntmps50
  go_wp2_with fail
  refine (HY.out _).mono ?_
  rintro e w1 ⟨_, rfl, A1, c1, rfl, m1, o1⟩
  rw [lay_length] at m1 ⊢
  have hown := own_only HO0.out o1 (by simp)
  have hon := HN0.out.trans0 o1
  obtain ⟨A2, c2, w2, hr, ho2, hs2, on2⟩ := append_own (P := Try.prog) w1 hon 48 48 5 i0 _ 1 Try.underlying48 HI.out HZ0.out HZ1.out HZ2.out rfl _ 1 _ hown A1 8 c1 _ (Sl.of_own m1) one_B (by unfold maxLen; omega) (by omega)
  have he : [Value.int .u8 3] ++ (lay 8 v).map B = (clockHead v).map B := rfl
  rw [he] at ho2
  have H2 := Lib.hid ho2
  have N2 := Lib.hid on2
  clear hown hon ho2 hs2 on2 m1 o1 he
  go_wp2_with (at_builtin; refine wpList_append_run _ rfl (.tmp 3) (.tmp 5) 48 rfl _ _ rfl rfl _ _ hr ?_)
  refine (ref4_whole A2 c2 (clockHead v) w2 H2.out N2.out).mono ?_
  rintro e w3 ⟨A3, c3, rfl, m3, o3⟩
  have H3 := Lib.hid m3
  have N3 := Lib.hid o3
  clear m3 o3 hr
  go_wp2
  go_ret
  exact ⟨A3, c3, rfl, H3.out, N3.out⟩
/-- no line of a superblock of fewer lines is it -/
def NoSuper (l : List UInt8) (k : Nat) : Prop := ∀ j, 10 ≤ j → j < k → superL j ≠ l
theorem isSuper_found {l : List UInt8} {k : Nat} (h1 : 10 ≤ k) (h2 : k ≤ 258) (h : superL k = l) : isSuper l = (k, true) := by rw [← h, isSuper_superL k h1 h2]
theorem isSuper_none {l : List UInt8} (h : NoSuper l 259) : isSuper l = (0, false) := by
  unfold isSuper
  rw [if_neg]
  rintro ⟨_, h1, h2, h3⟩
  exact h _ h1 (by omega) h3.symm
end Go.Proofs.Ytecdalmnndalgaa
/- The walks of the statements on code. -/
namespace Go.Proofs.Ytecdalmnndalgaa
open Go.RowKit Go.Proofs.FuMem Go.Proofs.FuCode
set_option maxRecDepth 100000
theorem law0_Num (x : Int) (w : World) : Calls Try.prog 26 #[.int .i64 x] w fun e w' => e = .returned (.int .i64 x) ∧ w = w' := by
  go_enter Try.func26, Try.ntmps26
  go_wp2
  go_ret
  exact ⟨rfl, rfl⟩
theorem Lent.only {w w' : World} {S : List Nat} {g : Nat} {l : List UInt8} (h : Lent w g l) (ho : Only S w w') (hs : g ∉ S) : Lent w' g l := (ho.block g h.lt hs).trans h
theorem put_digits : put [0, 0, 0] 1 2 258 = ([0, 2, 1], 0) := by decide +kernel
theorem get_digits : cget [0, 2, 1] 1 2 = (258, 0) := by decide +kernel
theorem three (w : World) (x y z : Int) (a b c : UInt8) (ha : x = a.toNat) (hb : y = b.toNat) (hc : z = c.toNat) : Bs (w.alloc (.cells #[.int .u8 x, .int .u8 y, .int .u8 z] 5)) (some ⟨w.heap.size, 0, none⟩) 3 [a, b, c] := by
  subst ha hb hc
  exact Sl.of_blk (Blk.new w 5 #[.int .u8 (a.toNat : Int), .int .u8 (b.toNat : Int), .int .u8 (c.toNat : Int)]) 0 rfl (by simp)
theorem three' (w : World) (g : Nat) (x y z : Int) (a b c : UInt8) (hg : g = w.heap.size) (ha : x = a.toNat) (hb : y = b.toNat) (hc : z = c.toNat) : Bs (w.alloc (.cells #[.int .u8 x, .int .u8 y, .int .u8 z] 5)) (some ⟨g, 0, none⟩) 3 [a, b, c] := by
  subst hg
  exact three w x y z a b c ha hb hc
theorem awake_put (w : World) : Calls Try.prog 68 #[.slice (some ⟨w.heap.size, 0, none⟩) 3 3, .int .i64 1, .int .i64 2, .int .u64 258] (w.alloc (.cells #[.int .u8 0, .int .u8 0, .int .u8 0] 5)) fun e w' => ∃ A c, e = .returned (.tuple #[.slice A 3 c, .int .i64 0]) ∧ Bs w' A 3 [0, 2, 1] ∧ Only [] w w' := by
  have hp := code_Put _ 3 3 _ 1 2 258 _ (three w 0 0 0 0 0 0 rfl rfl rfl) (by omega) (by omega) (by omega) (by omega)
  rw [put_digits] at hp
  refine hp.mono ?_
  rintro e w1 ⟨_, rfl, A1, c1, rfl, ho, on⟩
  exact ⟨A1, c1, rfl, bs_own ho, ((Only.refl _ _).alloc _).trans0 on⟩
theorem awake_get (w : World) : Calls Try.prog 45 #[.slice (some ⟨w.heap.size, 0, none⟩) 3 3, .int .i64 1, .int .i64 2] (w.alloc (.cells #[.int .u8 0, .int .u8 2, .int .u8 1] 5)) fun e w' => e = .returned (.tuple #[.int .u64 258, .int .i64 0]) ∧ (w.alloc (.cells #[.int .u8 0, .int .u8 2, .int .u8 1] 5)) = w' := by
  have hg := code_Get _ 3 3 _ 1 2 _ (three w 0 2 1 0 2 1 rfl rfl rfl) (by omega) (by omega) (by omega)
  rw [get_digits] at hg
  exact hg
end Go.Proofs.Ytecdalmnndalgaa
/- The walks of the statements on geom (without devices). -/
namespace Go.Proofs.Ytecdalmnndalgaa
open Go.RowKit Go.Proofs.FuMem Go.Proofs.FuCode Go.Proofs.FuCrc Go.Proofs.FuGeom Go.Proofs.FuClass
set_option maxRecDepth 100000
theorem arr64 {w : World} {g : Nat} {t : TypeId} {l : List UInt8} (h : Arr w g t l) (hl : l.length = 64) : Bs w (some ⟨g, 0, none⟩) 64 l := by
  have := h.bs
  rwa [hl] at this
theorem geom_IsClock {A : Option Addr} {n c : Nat} {l : List UInt8} {w : World} (h : Bs w A n l) (hn : n ≤ maxLen) :
    Calls Try.prog 24 #[.slice A n c] w fun e w' => e = .returned (.tuple #[.int .u64 (isClock l).1, .bool (isClock l).2]) ∧ Only [] w w' := by
  by_cases h64 : n = 64
  · subst h64
    obtain ⟨b, off, rfl, _⟩ := h.at_ (by omega)
    exact geom_IsClock_yes b off c l w h
  · rw [isClock_short (by rw [h.len]; exact h64)]
    exact geom_IsClock_no A n c w hn h64
end Go.Proofs.Ytecdalmnndalgaa
