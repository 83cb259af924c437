/- The contracts of package nvm, second part: flush, back, fence. -/
import Derived.Test.YtecdalmnndalgaaNvmB
namespace Go.Proofs.Ytecdalmnndalgaa
open Go.RowKit Go.Proofs.FuMem Go.Proofs.FuNvm Go.Proofs.FuCode
set_option maxRecDepth 100000

theorem cells_now (x : Line) (h : x.Ok) (l : List UInt8) (hl : l.length = 64) : cellsOf { x with now := l } = (cellsOf x).take 0 ++ l.map B ++ (cellsOf x).drop (0 + (l.map B).length) := by
  obtain ⟨h1, _, _⟩ := h
  have e : (cellsOf x).drop (0 + (l.map B).length) = x.kept.map B ++ (x.way.map B ++ [.bool x.sent]) := by
    unfold cellsOf
    rw [List.append_assoc, List.append_assoc]
    exact List.drop_left' (by simp [h1, hl])
  rw [e]
  simp [cellsOf]
theorem cells_kept (x : Line) (h : x.Ok) (l : List UInt8) (hl : l.length = 64) : cellsOf { x with kept := l } = (cellsOf x).take 64 ++ l.map B ++ (cellsOf x).drop (64 + (l.map B).length) := by
  obtain ⟨h1, h2, _⟩ := h
  have e : (cellsOf x).drop (64 + (l.map B).length) = x.way.map B ++ [.bool x.sent] := by
    unfold cellsOf
    rw [List.append_assoc]
    exact List.drop_left' (by simp [h1, h2, hl])
  have e2 : (cellsOf x).take 64 = x.now.map B := by
    unfold cellsOf
    rw [List.append_assoc, List.append_assoc]
    exact List.take_left' (by simp [h1])
  rw [e, e2]
  simp [cellsOf]
theorem cells_way (x : Line) (h : x.Ok) (l : List UInt8) (hl : l.length = 64) : cellsOf { x with way := l } = (cellsOf x).take 128 ++ l.map B ++ (cellsOf x).drop (128 + (l.map B).length) := by
  obtain ⟨h1, h2, h3⟩ := h
  have e : (cellsOf x).drop (128 + (l.map B).length) = [.bool x.sent] := by
    unfold cellsOf
    exact List.drop_left' (by simp [h1, h2, h3, hl])
  have e2 : (cellsOf x).take 128 = x.now.map B ++ x.kept.map B := by
    unfold cellsOf
    rw [List.append_assoc]
    exact List.take_left' (by simp [h1, h2])
  rw [e, e2]
  simp [cellsOf]
theorem cells_sent (x : Line) (h : x.Ok) (b : Bool) : cellsOf { x with sent := b } = (cellsOf x).take 192 ++ [.bool b] ++ (cellsOf x).drop (192 + [Value.bool b].length) := by
  have hl := cellsOf_length h
  obtain ⟨h1, h2, h3⟩ := h
  rw [List.drop_eq_nil_of_le (by simp; omega)]
  unfold cellsOf
  rw [List.take_append_of_le_length (by simp [h1, h2, h3]), List.take_of_length_le (by simp [h1, h2, h3])]
  simp
section
variable {tD tC : TypeId} {w w' : World} {g cb cap : Nat} {D : Dev}
theorem set_splice (cs : Array Value) (k : Nat) (v : Value) (h : k < cs.size) : cs.setIfInBounds k v = FuMem.splice cs k [v] := by
  apply Array.ext'
  unfold FuMem.splice
  rw [Array.toList_setIfInBounds, List.set_eq_take_append_cons_drop, if_pos (by simpa using h)]
  simp
theorem IsDev.setSent (h : IsDev tD tC w g cb cap D) {i : Nat} (hi : i < D.lines.length) (b : Bool) :
    IsDev tD tC (w.setCell ⟨cb, i * 193 + 192, none⟩ (.bool b)) g cb cap { D with lines := D.lines.set i { D.lines[i] with sent := b } } ∧ Only [cb] w (w.setCell ⟨cb, i * 193 + 192, none⟩ (.bool b)) := by
  have on : Only [cb] w (w.setCell ⟨cb, i * 193 + 192, none⟩ (.bool b)) := (Only.refl [cb] w).setCell (p := ⟨cb, i * 193 + 192, none⟩) (.inl (by simp)) _
  obtain ⟨cs, hb, hp⟩ := h.body
  have hs := body_size h.ok hp
  have hi2 : (i + 1) * 193 ≤ D.lines.length * 193 := Nat.mul_le_mul_right _ hi
  have hb2 := hb.set (i * 193 + 192) (.bool b)
  rw [set_splice cs _ _ (by omega)] at hb2
  exact ⟨h.write hi (o := 192) (vs := [.bool b]) (by simp) (cells_sent _ (h.ok.get hi) b) (h.ok.get hi) cs hp hb2 on, on⟩
end
def flushL (x : Line) : Line := { x with way := x.now, sent := true }
def backL (x : Line) : Line := { x with kept := x.now, sent := false }
def flushD (D : Dev) (i : Nat) (x : Line) : Dev := { D with lines := D.lines.set i (flushL x), flushes := wrap64 (D.flushes + 1) }
def backD (D : Dev) (i : Nat) (x : Line) : Dev := { D with lines := D.lines.set i (backL x), backs := wrap64 (D.backs + 1) }
theorem lineSize : (Try.prog.info? 92).map (·.size) = some 64 := by kernel_rfl
theorem nvm_Flush_no (g cb cap : Nat) (D : Dev) (line : Int) (w : World) (hd : DevAt w g cb cap D) (h : noPlace D.lines.length line 0 0) :
    Calls Try.prog 63 #[.pointer (some ⟨g, 0, none⟩), .int .i64 line] w fun e w' => e = .returned (.int .i64 2) ∧ w = w' := by
  have HT := Lib.hid (nvm_there_no g cb cap D line 0 0 w hd (by omega) h)
  clear hd h
  go_enter Try.func63, Try.ntmps63
  go_wp2_with fail
  refine (HT.out).mono ?_
  rintro e w' ⟨rfl, rfl⟩
  go_wp2
  go_ret
  exact ⟨rfl, rfl⟩
theorem nvm_Back_no (g cb cap : Nat) (D : Dev) (line : Int) (w : World) (hd : DevAt w g cb cap D) (h : noPlace D.lines.length line 0 0) :
    Calls Try.prog 32 #[.pointer (some ⟨g, 0, none⟩), .int .i64 line] w fun e w' => e = .returned (.int .i64 2) ∧ w = w' := by
  have HT := Lib.hid (nvm_there_no g cb cap D line 0 0 w hd (by omega) h)
  clear hd h
  go_enter Try.func32, Try.ntmps32
  go_wp2_with fail
  refine (HT.out).mono ?_
  rintro e w' ⟨rfl, rfl⟩
  go_wp2
  go_ret
  exact ⟨rfl, rfl⟩
set_option maxHeartbeats 400000 in
theorem nvm_Flush (g cb cap : Nat) (D : Dev) (i : Nat) (x : Line) (hx : D.lines[i]? = some x) (w : World) (hd : DevAt w g cb cap D) :
    Calls Try.prog 63 #[.pointer (some ⟨g, 0, none⟩), .int .i64 i] w fun e w' => e = .returned (.int .i64 0) ∧ DevAt w' g cb cap (flushD D i x) ∧ Only [g, cb] w w' := by
  obtain ⟨hi, rfl⟩ := List.getElem?_eq_some_iff.1 hx
  have hc : w.cell? ⟨g, 0, none⟩ = some (.slice (some ⟨cb, 0, none⟩) D.lines.length cap) := hd.cell 0
  have hf := hd.few
  have HT := Lib.hid (nvm_there_yes g cb cap D i 0 0 w hd (by omega) (by unfold noPlace; omega))
  have HD := Lib.hid hd
  have hok := hd.ok.get hi
  have hlen := hok.1
  have hnow := hd.now hi
  rw [← hlen] at hnow
  have hsz : (Try.prog.info? 92).map (·.size) = some (D.lines[i]).now.length := by rw [hlen]; exact lineSize
  have hsz2 : (Try.prog.info? 92).map (·.size) = some ((D.lines[i]).now.map B).toArray.size := by rw [List.size_toArray, List.length_map, hlen]; exact lineSize
  obtain ⟨cs, hb, hp⟩ := hd.body
  have hs := body_size hd.ok hp
  have hi2 : (i + 1) * 193 ≤ D.lines.length * 193 := Nat.mul_le_mul_right _ hi
  have hfit : i * 193 + 128 + ((D.lines[i]).now.map B).toArray.size ≤ cs.size := by rw [List.size_toArray, List.length_map, hlen]; omega
  have HOK := Lib.hid hok
  have HLEN := Lib.hid hlen
  have HS1 := Lib.hid hsz
  have HS2 := Lib.hid hsz2
  have HP := Lib.hid hp
  clear hok hlen hsz hsz2 hp hs hi2 hd hx
  go_enter Try.func63, Try.ntmps63
  go_wp2_with fail
  refine (HT.out).mono ?_
  rintro e w' ⟨rfl, rfl⟩
  go_wp2_with (first
    | ((with_reducible show wpList _ _ _ (Oper.mk (some 24) _ _ _ _ _ :: _) _ _); refine wpList_load_arr rfl 92 (.tmp 23) rfl cb (i * 193) rfl (D.lines[i]).now hnow 64 5 Try.underlying92 HS1.out ?_)
    | ((with_reducible show wpList _ _ _ (Oper.mk none _ _ _ _ _ :: _) _ _); refine wpList_store_blk rfl 92 (.tmp 26) (.tmp 24) rfl cb (i * 193 + 128) ((D.lines[i]).now.map B).toArray rfl rfl 94 cs hb hfit HS2.out (all_B _) ?_; intro w2 hb2 ho2 hs2;
        have hd2 : DevAt w2 g cb cap { D with lines := D.lines.set i { D.lines[i] with way := (D.lines[i]).now } } := HD.out.write hi (o := 128) (vs := (D.lines[i]).now.map B) (by rw [List.length_map, HLEN.out]; omega) (cells_way _ HOK.out _ HLEN.out) ⟨HOK.out.1, HOK.out.2.1, HOK.out.1⟩ cs HP.out hb2 ho2;
        have hc2 := hd2.cell 0; have hsc := hd2.sentCell (i := i) (by simpa using hi); have hfz := hd2.frozen2 (i * 193 + 192)))
  have hsw := IsDev.setSent hd2 (i := i) (by simpa using hi) true
  have hl2 : ({ { D with lines := D.lines.set i { D.lines[i] with way := (D.lines[i]).now } } with lines := (D.lines.set i { D.lines[i] with way := (D.lines[i]).now }).set i { ((D.lines.set i { D.lines[i] with way := (D.lines[i]).now })[i]'(by simpa using hi)) with sent := true } } : Dev) = { D with lines := D.lines.set i (flushL (D.lines[i])) } := by
    simp [flushL]
  have hd3 := hsw.1
  rw [hl2] at hd3
  have hc3 := hd3.cell 2
  have hf3 := hd3.frozen1 2
  have hcnt := IsDev.count (D' := flushD D i (D.lines[i])) hd3 2 (wrap64 (D.flushes + 1)) rfl (by unfold flushD headOf; simp)
  have HCN := Lib.hid hcnt
  have HO2 := Lib.hid (ho2.trans hsw.2 (by simp))
  clear hcnt hd2 hb2 ho2 hc2 hsc hfz hsw hl2 hd3 hb
  refine (int64_Add g 2 D.flushes _ hc3 hf3).mono ?_
  rintro e w3 ⟨rfl, rfl⟩
  go_wp2
  go_ret
  exact ⟨rfl, HCN.out.1, (HO2.out.mono (by simp)).trans HCN.out.2 (by simp)⟩
set_option maxHeartbeats 400000 in
theorem nvm_Back (g cb cap : Nat) (D : Dev) (i : Nat) (x : Line) (hx : D.lines[i]? = some x) (w : World) (hd : DevAt w g cb cap D) :
    Calls Try.prog 32 #[.pointer (some ⟨g, 0, none⟩), .int .i64 i] w fun e w' => e = .returned (.int .i64 0) ∧ DevAt w' g cb cap (backD D i x) ∧ Only [g, cb] w w' := by
  obtain ⟨hi, rfl⟩ := List.getElem?_eq_some_iff.1 hx
  have hc : w.cell? ⟨g, 0, none⟩ = some (.slice (some ⟨cb, 0, none⟩) D.lines.length cap) := hd.cell 0
  have hf := hd.few
  have HT := Lib.hid (nvm_there_yes g cb cap D i 0 0 w hd (by omega) (by unfold noPlace; omega))
  have HD := Lib.hid hd
  have hok := hd.ok.get hi
  have hlen := hok.1
  have hnow := hd.now hi
  rw [← hlen] at hnow
  have hsz : (Try.prog.info? 92).map (·.size) = some (D.lines[i]).now.length := by rw [hlen]; exact lineSize
  have hsz2 : (Try.prog.info? 92).map (·.size) = some ((D.lines[i]).now.map B).toArray.size := by rw [List.size_toArray, List.length_map, hlen]; exact lineSize
  obtain ⟨cs, hb, hp⟩ := hd.body
  have hs := body_size hd.ok hp
  have hi2 : (i + 1) * 193 ≤ D.lines.length * 193 := Nat.mul_le_mul_right _ hi
  have hfit : i * 193 + 64 + ((D.lines[i]).now.map B).toArray.size ≤ cs.size := by rw [List.size_toArray, List.length_map, hlen]; omega
  have HOK := Lib.hid hok
  have HLEN := Lib.hid hlen
  have HS1 := Lib.hid hsz
  have HS2 := Lib.hid hsz2
  have HP := Lib.hid hp
  clear hok hlen hsz hsz2 hp hs hi2 hd hx
  go_enter Try.func32, Try.ntmps32
  go_wp2_with fail
  refine (HT.out).mono ?_
  rintro e w' ⟨rfl, rfl⟩
  go_wp2_with (first
    | ((with_reducible show wpList _ _ _ (Oper.mk (some 24) _ _ _ _ _ :: _) _ _); refine wpList_load_arr rfl 92 (.tmp 23) rfl cb (i * 193) rfl (D.lines[i]).now hnow 64 5 Try.underlying92 HS1.out ?_)
    | ((with_reducible show wpList _ _ _ (Oper.mk none _ _ _ _ _ :: _) _ _); refine wpList_store_blk rfl 92 (.tmp 26) (.tmp 24) rfl cb (i * 193 + 64) ((D.lines[i]).now.map B).toArray rfl rfl 94 cs hb hfit HS2.out (all_B _) ?_; intro w2 hb2 ho2 hs2;
        have hd2 : DevAt w2 g cb cap { D with lines := D.lines.set i { D.lines[i] with kept := (D.lines[i]).now } } := HD.out.write hi (o := 64) (vs := (D.lines[i]).now.map B) (by rw [List.length_map, HLEN.out]; omega) (cells_kept _ HOK.out _ HLEN.out) ⟨HOK.out.1, HOK.out.1, HOK.out.2.2⟩ cs HP.out hb2 ho2;
        have hc2 := hd2.cell 0; have hsc := hd2.sentCell (i := i) (by simpa using hi); have hfz := hd2.frozen2 (i * 193 + 192)))
  have hsw := IsDev.setSent hd2 (i := i) (by simpa using hi) false
  have hl2 : ({ { D with lines := D.lines.set i { D.lines[i] with kept := (D.lines[i]).now } } with lines := (D.lines.set i { D.lines[i] with kept := (D.lines[i]).now }).set i { ((D.lines.set i { D.lines[i] with kept := (D.lines[i]).now })[i]'(by simpa using hi)) with sent := false } } : Dev) = { D with lines := D.lines.set i (backL (D.lines[i])) } := by
    simp [backL]
  have hd3 := hsw.1
  rw [hl2] at hd3
  have hc3 := hd3.cell 4
  have hf3 := hd3.frozen1 4
  have hcnt := IsDev.count (D' := backD D i (D.lines[i])) hd3 4 (wrap64 (D.backs + 1)) rfl (by unfold backD headOf; simp)
  have HCN := Lib.hid hcnt
  have HO2 := Lib.hid (ho2.trans hsw.2 (by simp))
  clear hcnt hd2 hb2 ho2 hc2 hsc hfz hsw hl2 hd3 hb
  refine (int64_Add g 4 D.backs _ hc3 hf3).mono ?_
  rintro e w3 ⟨rfl, rfl⟩
  go_wp2
  go_ret
  exact ⟨rfl, HCN.out.1, (HO2.out.mono (by simp)).trans HCN.out.2 (by simp)⟩
end Go.Proofs.Ytecdalmnndalgaa
