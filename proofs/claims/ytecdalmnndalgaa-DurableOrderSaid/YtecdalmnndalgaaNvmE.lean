/- The contracts of package nvm, fourth part: lines that are loose, lines on their way. -/
import Derived.Test.YtecdalmnndalgaaNvmD
import Derived.Test.YtecdalmnndalgaaInts
namespace Go.Proofs.Ytecdalmnndalgaa
open Go.RowKit Go.Proofs.FuMem Go.Proofs.FuNvm Go.Proofs.FuCode
set_option maxRecDepth 100000

theorem cellSize : (Try.prog.info? 94).map (·.size) = some 193 := by kernel_rfl
theorem lineGuard : Try.prog.eqGuardType Try.prog.depth 92 = false := by kernel_rfl
theorem neq_line (l k : List UInt8) (hl : l.length = 64) (hk : k.length = 64) (w : World) : (binOp .neq 92 (arrV l) (arrV k)).run Try.prog w = .ok (.bool (l != k)) w := by
  obtain ⟨i0, hi, hz0, hz1, hz2⟩ := info_parts Try.byteInfo
  exact run_neq_arr Try.underlying92 Try.underlying5 i0 hi hz1 l k hl hk w
theorem line_new (w : World) (x : Line) (h : x.Ok) : Bs (w.alloc (.cells (cellsOf x).toArray 94)) (some ⟨w.heap.size, 0, none⟩) x.now.length x.now ∧ Bs (w.alloc (.cells (cellsOf x).toArray 94)) (some ⟨w.heap.size, 64, none⟩) x.kept.length x.kept ∧
    (w.alloc (.cells (cellsOf x).toArray 94)).cell? ⟨w.heap.size, 192, none⟩ = some (.bool x.sent) := by
  obtain ⟨h1, h2, h3⟩ := h
  have hb := Blk.new w 94 (cellsOf x).toArray
  have hlen : (cellsOf x).length = 193 := cellsOf_length ⟨h1, h2, h3⟩
  refine ⟨Sl.of_blk hb 0 ?_ (by simp; omega), Sl.of_blk hb 64 ?_ (by simp; omega), ?_⟩
  · unfold cellsOf
    rw [List.drop_zero, List.append_assoc, List.append_assoc]
    exact (List.take_left' (by simp)).symm
  · unfold cellsOf
    have e : (x.now.map B ++ x.kept.map B ++ x.way.map B ++ [Value.bool x.sent]).drop 64 = x.kept.map B ++ (x.way.map B ++ [.bool x.sent]) := by
      rw [List.append_assoc, List.append_assoc]
      exact List.drop_left' (by simp [h1])
    rw [e]
    exact (List.take_left' (by simp)).symm
  · rw [hb.cell, List.getElem?_toArray]
    unfold cellsOf
    rw [List.getElem?_append_right (by simp [h1, h2, h3])]
    simp [h1, h2, h3]
theorem cell_loose (x : Line) (h : x.Ok) (w : World) :
    Calls Try.prog 73 #[.agg (cellsOf x).toArray] w fun e w' => e = .returned (.bool (x.now != x.kept)) ∧ Only [] w w' := by
  have hln := line_new w x h
  have hq := neq_line x.now x.kept h.1 h.2.1
  have hg := fun (a b : Operand) (w : World) => eqGuard_arr (P := Try.prog) lineGuard .neq a b x.now x.kept w
  have s1 : (Try.prog.info? 92).map (·.size) = some x.now.length := by rw [h.1]; exact lineSize
  have s2 : (Try.prog.info? 92).map (·.size) = some x.kept.length := by rw [h.2.1]; exact lineSize
  have HL := Lib.hid hln
  have S1 := Lib.hid s1
  have S2 := Lib.hid s2
  clear hln s1 s2 h
  generalize cellsOf x = cs at *
  go_enter Try.func73, Try.ntmps73
  go_wp2_with (first
    | ((with_reducible show wpList _ _ _ (Oper.mk (some 4) _ _ _ _ _ :: _) _ _); refine wpList_load_arr rfl 92 (.tmp 3) rfl w.heap.size 0 rfl x.now HL.out.1 64 5 Try.underlying92 S1.out ?_)
    | ((with_reducible show wpList _ _ _ (Oper.mk (some 6) _ _ _ _ _ :: _) _ _); refine wpList_load_arr rfl 92 (.tmp 5) rfl w.heap.size 64 rfl x.kept HL.out.2.1 64 5 Try.underlying92 S2.out ?_))
  go_ret
  exact ⟨rfl, (Only.refl _ _).alloc _⟩
/-- the lines of which something holds, rising -/
def those (p : Line → Bool) (L : List Line) (i : Nat) : List Int := ((List.range i).filter fun j => (L[j]?.map p).getD false).map fun (j : Nat) => (j : Int)
theorem those_succ (p : Line → Bool) (L : List Line) (i : Nat) (hi : i < L.length) : those p L (i + 1) = if p L[i] = true then those p L i ++ [(i : Int)] else those p L i := by
  unfold those
  rw [List.range_succ, List.filter_append, List.map_append]
  by_cases h : p L[i] = true
  · rw [if_pos h]
    simp [List.getElem?_eq_getElem hi, h]
  · rw [if_neg h]
    simp [List.getElem?_eq_getElem hi, h]
theorem those_length (p : Line → Bool) (L : List Line) (i : Nat) : (those p L i).length ≤ i := by
  unfold those
  rw [List.length_map]
  exact Nat.le_trans (List.length_filter_le _ _) (by simp)
/-- a whole line by value -/
theorem wpList_load_line {P : Program} {w : World} {ops : Array Oper} {rest : List Oper} {o : Oper} {a : Act} {Q : Exit → Act → World → Prop} (hgd : o.guard = none) (T : TypeId) (y : Operand) (ho : o.op = .load T y) (b off : Nat) (hx : a.eval y = .pointer (some ⟨b, off, none⟩)) (x : Line)
    (hc : Sl w (some ⟨b, off, none⟩) 193 (cellsOf x)) (d : TypeDesc) (hu : P.underlying T = some d) (hd : d.isRow = true) (hi : (P.info? T).map (·.size) = some (cellsOf x).length)
    (h : wpList P ops Q rest (a.put o.dst (.agg (cellsOf x).toArray)) w) : wpList P ops Q (o :: rest) a w :=
  wpList_load_mid hgd T y ho b off hx (cellsOf x) d (Sl.range hc) hu hd hi h
theorem IsDev.whole {tD tC : TypeId} {w : World} {g cb cap : Nat} {D : Dev} (h : IsDev tD tC w g cb cap D) {i : Nat} (hi : i < D.lines.length) : Sl w (some ⟨cb, i * 193, none⟩) 193 (cellsOf D.lines[i]) := by
  have := h.sl hi (o := 0) (m := 193) (by omega)
  rw [List.drop_zero, List.take_of_length_le (by rw [cellsOf_length (h.ok.get hi)]; exact Nat.le_refl _)] at this
  exact this
set_option maxHeartbeats 1000000 in
theorem nvm_lines_loose (g cb cap : Nat) (D : Dev) (w : World) (hd : DevAt w g cb cap D) :
    Calls Try.prog 72 #[.pointer (some ⟨g, 0, none⟩), .func (.func 73) #[] #[]] w fun e w' => ∃ v, e = .returned v ∧ MadeI w (those (fun x => x.now != x.kept) D.lines D.lines.length) v w' := by
  have hf := hd.few
  have HD := Lib.hid hd
  have HL := Lib.hid (nvm_Lines g cb cap D w hd)
  clear hd
  obtain ⟨m, hm⟩ : ∃ m, m = D.lines.length := ⟨_, rfl⟩
  rw [← hm] at hf HL ⊢
  have HM := Lib.hid hm
  clear hm
  obtain ⟨i0, hi, hz0, hz1, hz2⟩ := info_parts Try.intInfo
  have HI := Lib.hid hi
  have HZ0 := Lib.hid hz0
  have HZ1 := Lib.hid hz1
  have HZ2 := Lib.hid hz2
  clear hi hz0 hz1 hz2
  go_enter Try.func72, Try.ntmps72
  go_wp2_with fail
  refine (HL.out).mono ?_
  rintro e w' ⟨rfl, rfl⟩
  go_wp2
  go_loopw [5, 6, 9] (fun v _ i wr => ∃ (k n : Nat), k ≤ m ∧ i = .int .i64 k ∧ n = (those (fun x => x.now != x.kept) D.lines k).length ∧ wr.ownsRow w.heap.size 3 1 v n ((those (fun x => x.now != x.kept) D.lines k).map (.int .i64)) ∧ Only [] w wr) (fun _ _ i _ => m - (intOf i).toNat)
  case atStart => exact ⟨0, 0, Nat.zero_le _, rfl, rfl, own_nil _ _ _ _, Only.refl _ _⟩
  case round =>
    obtain ⟨k, n, hk, rfl, hn, ho, on⟩ := hrel
    by_cases hlt : k < m
    · have hkl : k < D.lines.length := by rw [← HM.out]; exact hlt
      have hdr := HD.out.only0 on
      have hc0 : wr.cell? ⟨g, 0, none⟩ = some (.slice (some ⟨cb, 0, none⟩) m cap) := by
        rw [hdr.cell 0, HM.out]
        rfl
      have hwh := IsDev.whole hdr hkl
      have hsz : (Try.prog.info? 94).map (·.size) = some (cellsOf D.lines[k]).length := by rw [cellsOf_length (hdr.ok.get hkl)]; exact cellSize
      have hok := hdr.ok.get hkl
      have HSZ := Lib.hid hsz
      have HOK := Lib.hid hok
      have HO := Lib.hid ho
      have ON := Lib.hid on
      have HN := Lib.hid hn
      clear hdr hsz hok ho on hn
      have hnk := those_length (fun x => x.now != x.kept) D.lines k
      by_cases hp : ((D.lines[k]).now != (D.lines[k]).kept) = true
      · have hsu := those_succ (fun x => x.now != x.kept) D.lines k hkl
        rw [if_pos hp] at hsu
        have HSU := Lib.hid hsu
        clear hsu
        go_wp2_with ((with_reducible show wpList _ _ _ (Oper.mk (some 19) _ _ _ _ _ :: _) _ _); refine wpList_load_line rfl 94 (.tmp 18) rfl cb (k * 193) rfl (D.lines[k]) hwh _ Try.underlying94 rfl HSZ.out ?_)
        refine (cell_loose (D.lines[k]) HOK.out wr).mono ?_
        rintro e w1 ⟨rfl, o1⟩
        have hown := own_only HO.out o1 (by simp)
        obtain ⟨A', c', w', hr, ho2, hs2, on2⟩ := append_own (P := Try.prog) (w1.alloc (.cells #[.int .i64 (k : Int)] 3)) ((ON.out.trans0 o1).alloc _) 42 42 3 i0 _ 8 Try.underlying42 HI.out HZ0.out HZ1.out HZ2.out rfl _ n _ (hown.alloc _) (some ⟨w1.heap.size, 0, none⟩) 1 1 [.int .i64 (k : Int)] (cell_new1 _ _ _) (ints_new1 _ _) (by have := HN.out; unfold maxLen; omega) (by have := HN.out; omega)
        rw [show (those (fun x => x.now != x.kept) D.lines k).map (Value.int .i64) ++ [.int .i64 (k : Int)] = (those (fun x => x.now != x.kept) D.lines (k + 1)).map (.int .i64) by rw [HSU.out]; simp] at ho2
        have H2 := Lib.hid ho2
        have N2 := Lib.hid on2
        clear hown ho2 hs2 on2 o1
        go_wp2_with (at_builtin; refine wpList_append_run _ rfl (.tmp 21) (.tmp 23) 42 rfl _ _ rfl rfl _ _ hr ?_)
        go_roundw
        case rel => exact ⟨k + 1, n + 1, by omega, by go_num, by rw [HSU.out, List.length_append, HN.out]; rfl, H2.out, N2.out⟩
        case measure => simp [intOf]; omega
      · have hp0 : ((D.lines[k]).now != (D.lines[k]).kept) = false := by simpa using hp
        have hsu := those_succ (fun x => x.now != x.kept) D.lines k hkl
        rw [if_neg hp] at hsu
        have HSU := Lib.hid hsu
        clear hsu hp
        go_wp2_with ((with_reducible show wpList _ _ _ (Oper.mk (some 19) _ _ _ _ _ :: _) _ _); refine wpList_load_line rfl 94 (.tmp 18) rfl cb (k * 193) rfl (D.lines[k]) hwh _ Try.underlying94 rfl HSZ.out ?_)
        refine (cell_loose (D.lines[k]) HOK.out wr).mono ?_
        rintro e w1 ⟨rfl, o1⟩
        have hown := own_only HO.out o1 (by simp)
        have H2 := Lib.hid hown
        have N2 := Lib.hid (ON.out.trans0 o1)
        clear hown o1
        go_wp2
        go_roundw
        case rel => exact ⟨k + 1, n, by omega, by go_num, by rw [HSU.out]; exact HN.out, by rw [HSU.out]; exact H2.out, N2.out⟩
        case measure => simp [intOf]; omega
    · obtain rfl : k = m := by omega
      obtain ⟨A', c', rfl, _, _⟩ := own_slice ho
      have H1 := Lib.hid ho
      have H2 := Lib.hid on
      clear ho on
      go_wp2
      go_ret
      exact ⟨.slice A' n c', rfl, madeI_own hn.symm H1.out H2.out⟩
theorem nvm_Loose (g cb cap : Nat) (D : Dev) (w : World) (hd : DevAt w g cb cap D) :
    Calls Try.prog 59 #[.pointer (some ⟨g, 0, none⟩)] w fun e w' => ∃ v, e = .returned v ∧ MadeI w (those (fun x => x.now != x.kept) D.lines D.lines.length) v w' := by
  have H := Lib.hid (nvm_lines_loose g cb cap D w hd)
  clear hd
  go_enter Try.func59, Try.ntmps59
  go_wp2_with fail
  refine (H.out).mono ?_
  rintro e w1 ⟨_, rfl, A1, c1, rfl, m1, o1⟩
  have M1 := Lib.hid m1
  have O1 := Lib.hid o1
  clear m1 o1
  go_wp2
  go_ret
  exact ⟨.slice A1 _ c1, rfl, A1, c1, rfl, M1.out, O1.out⟩
end Go.Proofs.Ytecdalmnndalgaa
