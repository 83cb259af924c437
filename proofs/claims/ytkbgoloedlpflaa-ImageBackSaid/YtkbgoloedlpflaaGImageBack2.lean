/- The contracts of package nvm, second part: flush, back, fence. -/
import Derived.Test.YtkbgoloedlpflaaGImageBack1
namespace Go.Proofs.Ytkbgoloedlpflaa
open Go.RowKit Go.Proofs.FuMem Go.Proofs.FuNvm Go.Proofs.FuCode
set_option maxRecDepth 100000
theorem cells_now (x : Line) (h : x.Ok) (l : List UInt8) (hl : l.length = 64) : cellsOf { x with now := l } = (cellsOf x).take 0 ++ l.map B ++ (cellsOf x).drop (0 + (l.map B).length) := by
  obtain ⟨h1, _, _⟩ := h
  have e : (cellsOf x).drop (0 + (l.map B).length) = x.kept.map B ++ (x.way.map B ++ [.bool x.sent]) := by
    unfold cellsOf
    rw [List.append_assoc, List.append_assoc]
    exact List.drop_left' (by simp [h1, hl])
  rw [e]
  simp [cellsOf]
theorem cells_kept (x : Line) (h : x.Ok) (l : List UInt8) (hl : l.length = 64) : cellsOf { x with kept := l } = (cellsOf x).take 64 ++ l.map B ++ (cellsOf x).drop (64 + (l.map B).length) := by
  obtain ⟨h1, h2, _⟩ := h
  have e : (cellsOf x).drop (64 + (l.map B).length) = x.way.map B ++ [.bool x.sent] := by
    unfold cellsOf
    rw [List.append_assoc]
    exact List.drop_left' (by simp [h1, h2, hl])
  have e2 : (cellsOf x).take 64 = x.now.map B := by
    unfold cellsOf
    rw [List.append_assoc, List.append_assoc]
    exact List.take_left' (by simp [h1])
  rw [e, e2]
  simp [cellsOf]
theorem cells_way (x : Line) (h : x.Ok) (l : List UInt8) (hl : l.length = 64) : cellsOf { x with way := l } = (cellsOf x).take 128 ++ l.map B ++ (cellsOf x).drop (128 + (l.map B).length) := by
  obtain ⟨h1, h2, h3⟩ := h
  have e : (cellsOf x).drop (128 + (l.map B).length) = [.bool x.sent] := by
    unfold cellsOf
    exact List.drop_left' (by simp [h1, h2, h3, hl])
  have e2 : (cellsOf x).take 128 = x.now.map B ++ x.kept.map B := by
    unfold cellsOf
    rw [List.append_assoc]
    exact List.take_left' (by simp [h1, h2])
  rw [e, e2]
  simp [cellsOf]
theorem cells_sent (x : Line) (h : x.Ok) (b : Bool) : cellsOf { x with sent := b } = (cellsOf x).take 192 ++ [.bool b] ++ (cellsOf x).drop (192 + [Value.bool b].length) := by
  have hl := cellsOf_length h
  obtain ⟨h1, h2, h3⟩ := h
  rw [List.drop_eq_nil_of_le (by simp; omega)]
  unfold cellsOf
  rw [List.take_append_of_le_length (by simp [h1, h2, h3]), List.take_of_length_le (by simp [h1, h2, h3])]
  simp
section
variable {tD tC : TypeId} {w w' : World} {g cb cap : Nat} {D : Dev}
theorem set_splice (cs : Array Value) (k : Nat) (v : Value) (h : k < cs.size) : cs.setIfInBounds k v = FuMem.splice cs k [v] := by
  apply Array.ext'
  unfold FuMem.splice
  rw [Array.toList_setIfInBounds, List.set_eq_take_append_cons_drop, if_pos (by simpa using h)]
  simp
theorem IsDev.setSent (h : IsDev tD tC w g cb cap D) {i : Nat} (hi : i < D.lines.length) (b : Bool) :
    IsDev tD tC (w.setCell ⟨cb, i * 193 + 192, none⟩ (.bool b)) g cb cap { D with lines := D.lines.set i { D.lines[i] with sent := b } } ∧ Only [cb] w (w.setCell ⟨cb, i * 193 + 192, none⟩ (.bool b)) := by
  have on : Only [cb] w (w.setCell ⟨cb, i * 193 + 192, none⟩ (.bool b)) := (Only.refl [cb] w).setCell (p := ⟨cb, i * 193 + 192, none⟩) (.inl (by simp)) _
  obtain ⟨cs, hb, hp⟩ := h.body
  have hs := body_size h.ok hp
  have hi2 : (i + 1) * 193 ≤ D.lines.length * 193 := Nat.mul_le_mul_right _ hi
  have hb2 := hb.set (i * 193 + 192) (.bool b)
  rw [set_splice cs _ _ (by omega)] at hb2
  exact ⟨h.write hi (o := 192) (vs := [.bool b]) (by simp) (cells_sent _ (h.ok.get hi) b) (h.ok.get hi) cs hp hb2 on, on⟩
end
def flushL (x : Line) : Line := { x with way := x.now, sent := true }
def backL (x : Line) : Line := { x with kept := x.now, sent := false }
def flushD (D : Dev) (i : Nat) (x : Line) : Dev := { D with lines := D.lines.set i (flushL x), flushes := wrap64 (D.flushes + 1) }
def backD (D : Dev) (i : Nat) (x : Line) : Dev := { D with lines := D.lines.set i (backL x), backs := wrap64 (D.backs + 1) }
theorem lineSize : (Try.prog.info? 108).map (·.size) = some 64 := by kernel_rfl
theorem nvm_Flush_no (g cb cap : Nat) (D : Dev) (line : Int) (w : World) (hd : DevAt w g cb cap D) (h : noPlace D.lines.length line 0 0) :
    Calls Try.prog 45 #[.pointer (some ⟨g, 0, none⟩), .int .i64 line] w fun e w' => e = .returned (.int .i64 2) ∧ w = w' := by
  have HT := Lib.hid (nvm_there_no g cb cap D line 0 0 w hd (by omega) h)
  clear hd h
  go_enter Try.func45, Try.ntmps45
  go_wp2_with fail
  refine (HT.out).mono ?_
  rintro e w' ⟨rfl, rfl⟩
  go_wp2
  go_ret
  exact ⟨rfl, rfl⟩
theorem nvm_Back_no (g cb cap : Nat) (D : Dev) (line : Int) (w : World) (hd : DevAt w g cb cap D) (h : noPlace D.lines.length line 0 0) :
    Calls Try.prog 37 #[.pointer (some ⟨g, 0, none⟩), .int .i64 line] w fun e w' => e = .returned (.int .i64 2) ∧ w = w' := by
  have HT := Lib.hid (nvm_there_no g cb cap D line 0 0 w hd (by omega) h)
  clear hd h
  go_enter Try.func37, Try.ntmps37
  go_wp2_with fail
  refine (HT.out).mono ?_
  rintro e w' ⟨rfl, rfl⟩
  go_wp2
  go_ret
  exact ⟨rfl, rfl⟩
set_option maxHeartbeats 400000 in
theorem nvm_Flush (g cb cap : Nat) (D : Dev) (i : Nat) (x : Line) (hx : D.lines[i]? = some x) (w : World) (hd : DevAt w g cb cap D) :
    Calls Try.prog 45 #[.pointer (some ⟨g, 0, none⟩), .int .i64 i] w fun e w' => e = .returned (.int .i64 0) ∧ DevAt w' g cb cap (flushD D i x) ∧ Only [g, cb] w w' := by
  obtain ⟨hi, rfl⟩ := List.getElem?_eq_some_iff.1 hx
  have hc : w.cell? ⟨g, 0, none⟩ = some (.slice (some ⟨cb, 0, none⟩) D.lines.length cap) := hd.cell 0
  have hf := hd.few
  have HT := Lib.hid (nvm_there_yes g cb cap D i 0 0 w hd (by omega) (by unfold noPlace; omega))
  have HD := Lib.hid hd
  have hok := hd.ok.get hi
  have hlen := hok.1
  have hnow := hd.now hi
  rw [← hlen] at hnow
  have hsz : (Try.prog.info? 108).map (·.size) = some (D.lines[i]).now.length := by rw [hlen]; exact lineSize
  have hsz2 : (Try.prog.info? 108).map (·.size) = some ((D.lines[i]).now.map B).toArray.size := by rw [List.size_toArray, List.length_map, hlen]; exact lineSize
  obtain ⟨cs, hb, hp⟩ := hd.body
  have hs := body_size hd.ok hp
  have hi2 : (i + 1) * 193 ≤ D.lines.length * 193 := Nat.mul_le_mul_right _ hi
  have hfit : i * 193 + 128 + ((D.lines[i]).now.map B).toArray.size ≤ cs.size := by rw [List.size_toArray, List.length_map, hlen]; omega
  have HOK := Lib.hid hok
  have HLEN := Lib.hid hlen
  have HS1 := Lib.hid hsz
  have HS2 := Lib.hid hsz2
  have HP := Lib.hid hp
  clear hok hlen hsz hsz2 hp hs hi2 hd hx
  go_enter Try.func45, Try.ntmps45
  go_wp2_with fail
  refine (HT.out).mono ?_
  rintro e w' ⟨rfl, rfl⟩
  go_wp2_with (first
    | ((with_reducible show wpList _ _ _ (Oper.mk (some 24) _ _ _ _ _ :: _) _ _); refine wpList_load_arr rfl 108 (.tmp 23) rfl cb (i * 193) rfl (D.lines[i]).now hnow 64 5 Try.underlying108 HS1.out ?_)
    | ((with_reducible show wpList _ _ _ (Oper.mk none _ _ _ _ _ :: _) _ _); refine wpList_store_blk rfl 108 (.tmp 26) (.tmp 24) rfl cb (i * 193 + 128) ((D.lines[i]).now.map B).toArray rfl rfl 110 cs hb hfit HS2.out (all_B _) ?_; intro w2 hb2 ho2 hs2;
        have hd2 : DevAt w2 g cb cap { D with lines := D.lines.set i { D.lines[i] with way := (D.lines[i]).now } } := HD.out.write hi (o := 128) (vs := (D.lines[i]).now.map B) (by rw [List.length_map, HLEN.out]; omega) (cells_way _ HOK.out _ HLEN.out) ⟨HOK.out.1, HOK.out.2.1, HOK.out.1⟩ cs HP.out hb2 ho2;
        have hc2 := hd2.cell 0; have hsc := hd2.sentCell (i := i) (by simpa using hi); have hfz := hd2.frozen2 (i * 193 + 192)))
  have hsw := IsDev.setSent hd2 (i := i) (by simpa using hi) true
  have hl2 : ({ { D with lines := D.lines.set i { D.lines[i] with way := (D.lines[i]).now } } with lines := (D.lines.set i { D.lines[i] with way := (D.lines[i]).now }).set i { ((D.lines.set i { D.lines[i] with way := (D.lines[i]).now })[i]'(by simpa using hi)) with sent := true } } : Dev) = { D with lines := D.lines.set i (flushL (D.lines[i])) } := by
    simp [flushL]
  have hd3 := hsw.1
  rw [hl2] at hd3
  have hc3 := hd3.cell 2
  have hf3 := hd3.frozen1 2
  have hcnt := IsDev.count (D' := flushD D i (D.lines[i])) hd3 2 (wrap64 (D.flushes + 1)) rfl (by unfold flushD headOf; simp)
  have HCN := Lib.hid hcnt
  have HO2 := Lib.hid (ho2.trans hsw.2 (by simp))
  clear hcnt hd2 hb2 ho2 hc2 hsc hfz hsw hl2 hd3 hb
  refine (int64_Add g 2 D.flushes _ hc3 hf3).mono ?_
  rintro e w3 ⟨rfl, rfl⟩
  go_wp2
  go_ret
  exact ⟨rfl, HCN.out.1, (HO2.out.mono (by simp)).trans HCN.out.2 (by simp)⟩
set_option maxHeartbeats 400000 in
theorem nvm_Back (g cb cap : Nat) (D : Dev) (i : Nat) (x : Line) (hx : D.lines[i]? = some x) (w : World) (hd : DevAt w g cb cap D) :
    Calls Try.prog 37 #[.pointer (some ⟨g, 0, none⟩), .int .i64 i] w fun e w' => e = .returned (.int .i64 0) ∧ DevAt w' g cb cap (backD D i x) ∧ Only [g, cb] w w' := by
  obtain ⟨hi, rfl⟩ := List.getElem?_eq_some_iff.1 hx
  have hc : w.cell? ⟨g, 0, none⟩ = some (.slice (some ⟨cb, 0, none⟩) D.lines.length cap) := hd.cell 0
  have hf := hd.few
  have HT := Lib.hid (nvm_there_yes g cb cap D i 0 0 w hd (by omega) (by unfold noPlace; omega))
  have HD := Lib.hid hd
  have hok := hd.ok.get hi
  have hlen := hok.1
  have hnow := hd.now hi
  rw [← hlen] at hnow
  have hsz : (Try.prog.info? 108).map (·.size) = some (D.lines[i]).now.length := by rw [hlen]; exact lineSize
  have hsz2 : (Try.prog.info? 108).map (·.size) = some ((D.lines[i]).now.map B).toArray.size := by rw [List.size_toArray, List.length_map, hlen]; exact lineSize
  obtain ⟨cs, hb, hp⟩ := hd.body
  have hs := body_size hd.ok hp
  have hi2 : (i + 1) * 193 ≤ D.lines.length * 193 := Nat.mul_le_mul_right _ hi
  have hfit : i * 193 + 64 + ((D.lines[i]).now.map B).toArray.size ≤ cs.size := by rw [List.size_toArray, List.length_map, hlen]; omega
  have HOK := Lib.hid hok
  have HLEN := Lib.hid hlen
  have HS1 := Lib.hid hsz
  have HS2 := Lib.hid hsz2
  have HP := Lib.hid hp
  clear hok hlen hsz hsz2 hp hs hi2 hd hx
  go_enter Try.func37, Try.ntmps37
  go_wp2_with fail
  refine (HT.out).mono ?_
  rintro e w' ⟨rfl, rfl⟩
  go_wp2_with (first
    | ((with_reducible show wpList _ _ _ (Oper.mk (some 24) _ _ _ _ _ :: _) _ _); refine wpList_load_arr rfl 108 (.tmp 23) rfl cb (i * 193) rfl (D.lines[i]).now hnow 64 5 Try.underlying108 HS1.out ?_)
    | ((with_reducible show wpList _ _ _ (Oper.mk none _ _ _ _ _ :: _) _ _); refine wpList_store_blk rfl 108 (.tmp 26) (.tmp 24) rfl cb (i * 193 + 64) ((D.lines[i]).now.map B).toArray rfl rfl 110 cs hb hfit HS2.out (all_B _) ?_; intro w2 hb2 ho2 hs2;
        have hd2 : DevAt w2 g cb cap { D with lines := D.lines.set i { D.lines[i] with kept := (D.lines[i]).now } } := HD.out.write hi (o := 64) (vs := (D.lines[i]).now.map B) (by rw [List.length_map, HLEN.out]; omega) (cells_kept _ HOK.out _ HLEN.out) ⟨HOK.out.1, HOK.out.1, HOK.out.2.2⟩ cs HP.out hb2 ho2;
        have hc2 := hd2.cell 0; have hsc := hd2.sentCell (i := i) (by simpa using hi); have hfz := hd2.frozen2 (i * 193 + 192)))
  have hsw := IsDev.setSent hd2 (i := i) (by simpa using hi) false
  have hl2 : ({ { D with lines := D.lines.set i { D.lines[i] with kept := (D.lines[i]).now } } with lines := (D.lines.set i { D.lines[i] with kept := (D.lines[i]).now }).set i { ((D.lines.set i { D.lines[i] with kept := (D.lines[i]).now })[i]'(by simpa using hi)) with sent := false } } : Dev) = { D with lines := D.lines.set i (backL (D.lines[i])) } := by
    simp [backL]
  have hd3 := hsw.1
  rw [hl2] at hd3
  have hc3 := hd3.cell 4
  have hf3 := hd3.frozen1 4
  have hcnt := IsDev.count (D' := backD D i (D.lines[i])) hd3 4 (wrap64 (D.backs + 1)) rfl (by unfold backD headOf; simp)
  have HCN := Lib.hid hcnt
  have HO2 := Lib.hid (ho2.trans hsw.2 (by simp))
  clear hcnt hd2 hb2 ho2 hc2 hsc hfz hsw hl2 hd3 hb
  refine (int64_Add g 4 D.backs _ hc3 hf3).mono ?_
  rintro e w3 ⟨rfl, rfl⟩
  go_wp2
  go_ret
  exact ⟨rfl, HCN.out.1, (HO2.out.mono (by simp)).trans HCN.out.2 (by simp)⟩
end Go.Proofs.Ytkbgoloedlpflaa
/- The contracts of package nvm, third part: the fence. -/
namespace Go.Proofs.Ytkbgoloedlpflaa
open Go.RowKit Go.Proofs.FuMem Go.Proofs.FuNvm Go.Proofs.FuCode
set_option maxRecDepth 100000
/-- the first i lines have turned -/
def upTo (f : Nat → Line → Line) (L : List Line) (i : Nat) : List Line := L.mapIdx fun j x => if j < i then f j x else x
theorem upTo_length (f : Nat → Line → Line) (L : List Line) (i : Nat) : (upTo f L i).length = L.length := by simp [upTo]
theorem upTo_zero (f : Nat → Line → Line) (L : List Line) : upTo f L 0 = L := by
  apply List.ext_getElem
  · simp [upTo]
  · intro i h1 h2
    simp [upTo]
theorem upTo_all (f : Nat → Line → Line) (L : List Line) : upTo f L L.length = L.mapIdx f := by
  apply List.ext_getElem
  · simp [upTo]
  · intro i h1 h2
    simp only [upTo_length] at h1
    simp [upTo, h1]
theorem upTo_get (f : Nat → Line → Line) (L : List Line) (i : Nat) (hi : i < L.length) : (upTo f L i)[i]? = some L[i] := by
  simp [upTo, List.getElem?_eq_getElem hi]
theorem upTo_succ (f : Nat → Line → Line) (L : List Line) (i : Nat) (hi : i < L.length) : (upTo f L i).set i (f i L[i]) = upTo f L (i + 1) := by
  apply List.ext_getElem
  · simp [upTo]
  · intro j h1 h2
    simp only [List.getElem_set, upTo, List.getElem_mapIdx]
    by_cases e : i = j
    · subst e
      simp
    · rw [if_neg e]
      by_cases h : j < i
      · rw [if_pos h, if_pos (by omega)]
      · rw [if_neg h, if_neg (by omega)]
theorem upTo_keep (f : Nat → Line → Line) (L : List Line) (i : Nat) (hi : i < L.length) (h : f i L[i] = L[i]) : upTo f L i = upTo f L (i + 1) := by
  rw [← upTo_succ f L i hi, h]
  have := upTo_get f L i hi
  obtain ⟨h1, h2⟩ := List.getElem?_eq_some_iff.1 this
  rw [← h2]
  exact (List.set_getElem_self h1).symm
def fenceL (x : Line) : Line := if x.sent = true then { x with kept := x.way, sent := false } else x
def fenceD (D : Dev) : Dev := { D with lines := D.lines.map fenceL, fences := wrap64 (D.fences + 1) }
theorem mapIdx_map (f : Line → Line) (L : List Line) : L.mapIdx (fun _ x => f x) = L.map f := by
  apply List.ext_getElem
  · simp
  · intro i h1 h2
    simp
set_option maxHeartbeats 1000000 in
theorem nvm_Fence (g cb cap : Nat) (D : Dev) (w : World) (hd : DevAt w g cb cap D) :
    Calls Try.prog 47 #[.pointer (some ⟨g, 0, none⟩)] w fun e w' => e = .returned (.int .i64 0) ∧ DevAt w' g cb cap (fenceD D) ∧ Only [g, cb] w w' := by
  have hc : w.cell? ⟨g, 0, none⟩ = some (.slice (some ⟨cb, 0, none⟩) D.lines.length cap) := hd.cell 0
  have hf := hd.few
  have HD := Lib.hid hd
  clear hd
  obtain ⟨m, hm⟩ : ∃ m, m = D.lines.length := ⟨_, rfl⟩
  rw [← hm] at hc hf
  have HM := Lib.hid hm
  clear hm
  go_enter Try.func47, Try.ntmps47
  go_wp2
  go_loopw [3, 4, 12] (fun _ _ i wr => ∃ k : Nat, k ≤ m ∧ i = .int .i64 k ∧ DevAt wr g cb cap { D with lines := upTo (fun _ x => fenceL x) D.lines k } ∧ Only [g, cb] w wr) (fun _ _ i _ => m - (intOf i).toNat)
  case atStart => exact ⟨0, Nat.zero_le _, rfl, by rw [upTo_zero]; exact HD.out, Only.refl _ _⟩
  case round =>
    obtain ⟨k, hk, rfl, hd, on⟩ := hrel
    have hcr := hd.cell 0
    have hcr0 : wr.cell? ⟨g, 0, none⟩ = some (.slice (some ⟨cb, 0, none⟩) m cap) := by
      rw [hcr]
      simp [headOf, upTo_length, HM.out]
    clear hcr
    by_cases hlt : k < m
    · have hkl : k < D.lines.length := by rw [← HM.out]; exact hlt
      have hkl2 : k < (upTo (fun _ x => fenceL x) D.lines k).length := by rw [upTo_length]; exact hkl
      obtain ⟨hq1, hq2⟩ := List.getElem?_eq_some_iff.1 (upTo_get (fun _ x => fenceL x) D.lines k hkl)
      have hsc := hd.sentCell (i := k) hkl2
      simp only [hq2] at hsc
      by_cases hsent : (D.lines[k]).sent = true
      · rw [hsent] at hsc
        have hok := HD.out.ok.get hkl
        have hlen := hok.2.2
        have hway := hd.way (i := k) hkl2
        simp only [hq2] at hway
        rw [← hlen] at hway
        have hsz : (Try.prog.info? 108).map (·.size) = some (D.lines[k]).way.length := by rw [hlen]; exact lineSize
        have hsz2 : (Try.prog.info? 108).map (·.size) = some ((D.lines[k]).way.map B).toArray.size := by rw [List.size_toArray, List.length_map, hlen]; exact lineSize
        obtain ⟨cs, hb, hp⟩ := hd.body
        have hs := body_size hd.ok hp
        have hi2 : (k + 1) * 193 ≤ (upTo (fun _ x => fenceL x) D.lines k).length * 193 := Nat.mul_le_mul_right _ hkl2
        have hfit : k * 193 + 64 + ((D.lines[k]).way.map B).toArray.size ≤ cs.size := by rw [List.size_toArray, List.length_map, hlen]; simp only at hs; omega
        have hsucc := upTo_succ (fun _ x => fenceL x) D.lines k hkl
        have hfl : fenceL (D.lines[k]) = { D.lines[k] with kept := (D.lines[k]).way, sent := false } := by unfold fenceL; rw [if_pos hsent]
        have HOK := Lib.hid hok
        have HLEN := Lib.hid hlen
        have HS1 := Lib.hid hsz
        have HS2 := Lib.hid hsz2
        have HP := Lib.hid hp
        have HDR := Lib.hid hd
        have ON := Lib.hid on
        have HQ := Lib.hid hq2
        have HSU := Lib.hid hsucc
        have HFL := Lib.hid hfl
        clear hok hlen hsz hsz2 hp hs hi2 hd on hq2 hsucc hfl hsent
        go_wp2_with (first
          | ((with_reducible show wpList _ _ _ (Oper.mk (some 30) _ _ _ _ _ :: _) _ _); refine wpList_load_arr rfl 108 (.tmp 29) rfl cb (k * 193 + 128) rfl (D.lines[k]).way hway 64 5 Try.underlying108 HS1.out ?_)
          | ((with_reducible show wpList _ _ _ (Oper.mk none _ _ _ _ _ :: _) _ _); refine wpList_store_blk rfl 108 (.tmp 32) (.tmp 30) rfl cb (k * 193 + 64) ((D.lines[k]).way.map B).toArray rfl rfl 110 cs hb hfit HS2.out (all_B _) ?_; intro w2 hb2 ho2 hs2;
              have hd2 := HDR.out.write hkl2 (o := 64) (vs := (D.lines[k]).way.map B) (y := { D.lines[k] with kept := (D.lines[k]).way }) (by rw [List.length_map, HLEN.out]; omega) (by rw [show ((upTo (fun _ x => fenceL x) D.lines k)[k]'hkl2) = D.lines[k] from HQ.out]; exact cells_kept _ HOK.out _ HLEN.out) ⟨HOK.out.1, HOK.out.2.2, HOK.out.2.2⟩ cs HP.out hb2 ho2;
              have hsc := hd2.sentCell (i := k) (by simpa using hkl2); have hfz := hd2.frozen2 (k * 193 + 192); simp only [List.getElem_set_self] at hsc))
        have hsw := IsDev.setSent hd2 (i := k) (by simpa using hkl2) false
        have he : ∀ D' : Dev, D' = { D with lines := upTo (fun _ x => fenceL x) D.lines (k + 1) } → DevAt (w2.setCell ⟨cb, k * 193 + 192, none⟩ (.bool false)) g cb cap D' → DevAt (w2.setCell ⟨cb, k * 193 + 192, none⟩ (.bool false)) g cb cap { D with lines := upTo (fun _ x => fenceL x) D.lines (k + 1) } := by
          rintro D' rfl h
          exact h
        have hd3 := he _ (by
          rw [← HSU.out, HFL.out]
          simp) hsw.1
        have HD3 := Lib.hid hd3
        have ON3 := Lib.hid (ON.out.trans (ho2.trans hsw.2 (T := [cb]) (by simp)) (by simp))
        clear hd3 he hsw hd2 hb2 ho2 hb hway
        go_roundw
        case rel => exact ⟨k + 1, by omega, by go_num, HD3.out, ON3.out⟩
        case measure => simp [intOf]; omega
      · have hs0 : (D.lines[k]).sent = false := by simpa using hsent
        rw [hs0] at hsc
        have hkeep := upTo_keep (fun _ x => fenceL x) D.lines k hkl (by unfold fenceL; rw [if_neg hsent])
        rw [hkeep] at hd
        have HD2 := Lib.hid hd
        have ON := Lib.hid on
        clear hd on hkeep hsent hs0 hq2
        go_wp2
        go_roundw
        case rel => exact ⟨k + 1, by omega, by go_num, HD2.out, ON.out⟩
        case measure => simp [intOf]; omega
    · obtain rfl : k = m := by omega
      have hall : upTo (fun _ x => fenceL x) D.lines k = D.lines.map fenceL := by rw [HM.out, upTo_all, mapIdx_map]
      rw [hall] at hd
      have hc3 := hd.cell 3
      have hf3 := hd.frozen1 3
      have hcnt := IsDev.count (D' := fenceD D) hd 3 (wrap64 (D.fences + 1)) rfl (by unfold fenceD headOf; simp)
      have HCN := Lib.hid hcnt
      have ON := Lib.hid on
      clear hd on hall hcnt
      go_wp2_with fail
      refine (int64_Add g 3 D.fences _ hc3 hf3).mono ?_
      rintro e w3 ⟨rfl, rfl⟩
      go_wp2
      go_ret
      exact ⟨rfl, HCN.out.1, ON.out.trans HCN.out.2 (by simp)⟩
end Go.Proofs.Ytkbgoloedlpflaa
/- The contracts of package nvm, fourth part: lines that are loose, lines on their way. -/
namespace Go.Proofs.Ytkbgoloedlpflaa
open Go.RowKit Go.Proofs.FuMem Go.Proofs.FuNvm Go.Proofs.FuCode
set_option maxRecDepth 100000
theorem cellSize : (Try.prog.info? 110).map (·.size) = some 193 := by kernel_rfl
theorem lineGuard : Try.prog.eqGuardType Try.prog.depth 108 = false := by kernel_rfl
theorem neq_line (l k : List UInt8) (hl : l.length = 64) (hk : k.length = 64) (w : World) : (binOp .neq 108 (arrV l) (arrV k)).run Try.prog w = .ok (.bool (l != k)) w := by
  obtain ⟨i0, hi, hz0, hz1, hz2⟩ := info_parts Try.byteInfo
  exact run_neq_arr Try.underlying108 Try.underlying5 i0 hi hz1 l k hl hk w
theorem line_new (w : World) (x : Line) (h : x.Ok) : Bs (w.alloc (.cells (cellsOf x).toArray 110)) (some ⟨w.heap.size, 0, none⟩) x.now.length x.now ∧ Bs (w.alloc (.cells (cellsOf x).toArray 110)) (some ⟨w.heap.size, 64, none⟩) x.kept.length x.kept ∧
    (w.alloc (.cells (cellsOf x).toArray 110)).cell? ⟨w.heap.size, 192, none⟩ = some (.bool x.sent) := by
  obtain ⟨h1, h2, h3⟩ := h
  have hb := Blk.new w 110 (cellsOf x).toArray
  have hlen : (cellsOf x).length = 193 := cellsOf_length ⟨h1, h2, h3⟩
  refine ⟨Sl.of_blk hb 0 ?_ (by simp; omega), Sl.of_blk hb 64 ?_ (by simp; omega), ?_⟩
  · unfold cellsOf
    rw [List.drop_zero, List.append_assoc, List.append_assoc]
    exact (List.take_left' (by simp)).symm
  · unfold cellsOf
    have e : (x.now.map B ++ x.kept.map B ++ x.way.map B ++ [Value.bool x.sent]).drop 64 = x.kept.map B ++ (x.way.map B ++ [.bool x.sent]) := by
      rw [List.append_assoc, List.append_assoc]
      exact List.drop_left' (by simp [h1])
    rw [e]
    exact (List.take_left' (by simp)).symm
  · rw [hb.cell, List.getElem?_toArray]
    unfold cellsOf
    rw [List.getElem?_append_right (by simp [h1, h2, h3])]
    simp [h1, h2, h3]
theorem cell_loose (x : Line) (h : x.Ok) (w : World) :
    Calls Try.prog 57 #[.agg (cellsOf x).toArray] w fun e w' => e = .returned (.bool (x.now != x.kept)) ∧ Only [] w w' := by
  have hln := line_new w x h
  have hq := neq_line x.now x.kept h.1 h.2.1
  have hg := fun (a b : Operand) (w : World) => eqGuard_arr (P := Try.prog) lineGuard .neq a b x.now x.kept w
  have s1 : (Try.prog.info? 108).map (·.size) = some x.now.length := by rw [h.1]; exact lineSize
  have s2 : (Try.prog.info? 108).map (·.size) = some x.kept.length := by rw [h.2.1]; exact lineSize
  have HL := Lib.hid hln
  have S1 := Lib.hid s1
  have S2 := Lib.hid s2
  clear hln s1 s2 h
  generalize cellsOf x = cs at *
  go_enter Try.func57, Try.ntmps57
  go_wp2_with (first
    | ((with_reducible show wpList _ _ _ (Oper.mk (some 4) _ _ _ _ _ :: _) _ _); refine wpList_load_arr rfl 108 (.tmp 3) rfl w.heap.size 0 rfl x.now HL.out.1 64 5 Try.underlying108 S1.out ?_)
    | ((with_reducible show wpList _ _ _ (Oper.mk (some 6) _ _ _ _ _ :: _) _ _); refine wpList_load_arr rfl 108 (.tmp 5) rfl w.heap.size 64 rfl x.kept HL.out.2.1 64 5 Try.underlying108 S2.out ?_))
  go_ret
  exact ⟨rfl, (Only.refl _ _).alloc _⟩
theorem cell_sent (x : Line) (h : x.Ok) (w : World) :
    Calls Try.prog 66 #[.agg (cellsOf x).toArray] w fun e w' => e = .returned (.bool x.sent) ∧ Only [] w w' := by
  have hln := (line_new w x h).2.2
  clear h
  generalize x.sent = b at *
  generalize cellsOf x = cs at *
  go_enter Try.func66, Try.ntmps66
  go_wp2
  go_ret
  exact ⟨rfl, (Only.refl _ _).alloc _⟩
/-- the lines of which something holds, rising -/
def those (p : Line → Bool) (L : List Line) (i : Nat) : List Int := ((List.range i).filter fun j => (L[j]?.map p).getD false).map fun (j : Nat) => (j : Int)
theorem those_succ (p : Line → Bool) (L : List Line) (i : Nat) (hi : i < L.length) : those p L (i + 1) = if p L[i] = true then those p L i ++ [(i : Int)] else those p L i := by
  unfold those
  rw [List.range_succ, List.filter_append, List.map_append]
  by_cases h : p L[i] = true
  · rw [if_pos h]
    simp [List.getElem?_eq_getElem hi, h]
  · rw [if_neg h]
    simp [List.getElem?_eq_getElem hi, h]
theorem those_length (p : Line → Bool) (L : List Line) (i : Nat) : (those p L i).length ≤ i := by
  unfold those
  rw [List.length_map]
  exact Nat.le_trans (List.length_filter_le _ _) (by simp)
/-- a whole line by value -/
theorem wpList_load_line {P : Program} {w : World} {ops : Array Oper} {rest : List Oper} {o : Oper} {a : Act} {Q : Exit → Act → World → Prop} (hgd : o.guard = none) (T : TypeId) (y : Operand) (ho : o.op = .load T y) (b off : Nat) (hx : a.eval y = .pointer (some ⟨b, off, none⟩)) (x : Line)
    (hc : Sl w (some ⟨b, off, none⟩) 193 (cellsOf x)) (d : TypeDesc) (hu : P.underlying T = some d) (hd : d.isRow = true) (hi : (P.info? T).map (·.size) = some (cellsOf x).length)
    (h : wpList P ops Q rest (a.put o.dst (.agg (cellsOf x).toArray)) w) : wpList P ops Q (o :: rest) a w :=
  wpList_load_mid hgd T y ho b off hx (cellsOf x) d (Sl.range hc) hu hd hi h
theorem IsDev.whole {tD tC : TypeId} {w : World} {g cb cap : Nat} {D : Dev} (h : IsDev tD tC w g cb cap D) {i : Nat} (hi : i < D.lines.length) : Sl w (some ⟨cb, i * 193, none⟩) 193 (cellsOf D.lines[i]) := by
  have := h.sl hi (o := 0) (m := 193) (by omega)
  rw [List.drop_zero, List.take_of_length_le (by rw [cellsOf_length (h.ok.get hi)]; exact Nat.le_refl _)] at this
  exact this
set_option maxHeartbeats 1000000 in
theorem nvm_lines_loose (g cb cap : Nat) (D : Dev) (w : World) (hd : DevAt w g cb cap D) :
    Calls Try.prog 62 #[.pointer (some ⟨g, 0, none⟩), .func (.func 57) #[] #[]] w fun e w' => ∃ v, e = .returned v ∧ MadeI w (those (fun x => x.now != x.kept) D.lines D.lines.length) v w' := by
  have hf := hd.few
  have HD := Lib.hid hd
  have HL := Lib.hid (nvm_Lines g cb cap D w hd)
  clear hd
  obtain ⟨m, hm⟩ : ∃ m, m = D.lines.length := ⟨_, rfl⟩
  rw [← hm] at hf HL ⊢
  have HM := Lib.hid hm
  clear hm
  obtain ⟨i0, hi, hz0, hz1, hz2⟩ := info_parts Try.intInfo
  have HI := Lib.hid hi
  have HZ0 := Lib.hid hz0
  have HZ1 := Lib.hid hz1
  have HZ2 := Lib.hid hz2
  clear hi hz0 hz1 hz2
  go_enter Try.func62, Try.ntmps62
  go_wp2_with fail
  refine (HL.out).mono ?_
  rintro e w' ⟨rfl, rfl⟩
  go_wp2
  go_loopw [5, 6, 9] (fun v _ i wr => ∃ (k n : Nat), k ≤ m ∧ i = .int .i64 k ∧ n = (those (fun x => x.now != x.kept) D.lines k).length ∧ wr.ownsRow w.heap.size 3 1 v n ((those (fun x => x.now != x.kept) D.lines k).map (.int .i64)) ∧ Only [] w wr) (fun _ _ i _ => m - (intOf i).toNat)
  case atStart => exact ⟨0, 0, Nat.zero_le _, rfl, rfl, own_nil _ _ _ _, Only.refl _ _⟩
  case round =>
    obtain ⟨k, n, hk, rfl, hn, ho, on⟩ := hrel
    by_cases hlt : k < m
    · have hkl : k < D.lines.length := by rw [← HM.out]; exact hlt
      have hdr := HD.out.only0 on
      have hc0 : wr.cell? ⟨g, 0, none⟩ = some (.slice (some ⟨cb, 0, none⟩) m cap) := by
        rw [hdr.cell 0, HM.out]
        rfl
      have hwh := IsDev.whole hdr hkl
      have hsz : (Try.prog.info? 110).map (·.size) = some (cellsOf D.lines[k]).length := by rw [cellsOf_length (hdr.ok.get hkl)]; exact cellSize
      have hok := hdr.ok.get hkl
      have HSZ := Lib.hid hsz
      have HOK := Lib.hid hok
      have HO := Lib.hid ho
      have ON := Lib.hid on
      have HN := Lib.hid hn
      clear hdr hsz hok ho on hn
      have hnk := those_length (fun x => x.now != x.kept) D.lines k
      by_cases hp : ((D.lines[k]).now != (D.lines[k]).kept) = true
      · have hsu := those_succ (fun x => x.now != x.kept) D.lines k hkl
        rw [if_pos hp] at hsu
        have HSU := Lib.hid hsu
        clear hsu
        go_wp2_with ((with_reducible show wpList _ _ _ (Oper.mk (some 19) _ _ _ _ _ :: _) _ _); refine wpList_load_line rfl 110 (.tmp 18) rfl cb (k * 193) rfl (D.lines[k]) hwh _ Try.underlying110 rfl HSZ.out ?_)
        refine (cell_loose (D.lines[k]) HOK.out wr).mono ?_
        rintro e w1 ⟨rfl, o1⟩
        have hown := own_only HO.out o1 (by simp)
        obtain ⟨A', c', w', hr, ho2, hs2, on2⟩ := append_own (P := Try.prog) (w1.alloc (.cells #[.int .i64 (k : Int)] 3)) ((ON.out.trans0 o1).alloc _) 51 51 3 i0 _ 8 Try.underlying51 HI.out HZ0.out HZ1.out HZ2.out rfl _ n _ (hown.alloc _) (some ⟨w1.heap.size, 0, none⟩) 1 1 [.int .i64 (k : Int)] (cell_new1 _ _ _) (ints_new1 _ _) (by have := HN.out; unfold maxLen; omega) (by have := HN.out; omega)
        rw [show (those (fun x => x.now != x.kept) D.lines k).map (Value.int .i64) ++ [.int .i64 (k : Int)] = (those (fun x => x.now != x.kept) D.lines (k + 1)).map (.int .i64) by rw [HSU.out]; simp] at ho2
        have H2 := Lib.hid ho2
        have N2 := Lib.hid on2
        clear hown ho2 hs2 on2 o1
        go_wp2_with (at_builtin; refine wpList_append_run _ rfl (.tmp 21) (.tmp 23) 51 rfl _ _ rfl rfl _ _ hr ?_)
        go_roundw
        case rel => exact ⟨k + 1, n + 1, by omega, by go_num, by rw [HSU.out, List.length_append, HN.out]; rfl, H2.out, N2.out⟩
        case measure => simp [intOf]; omega
      · have hp0 : ((D.lines[k]).now != (D.lines[k]).kept) = false := by simpa using hp
        have hsu := those_succ (fun x => x.now != x.kept) D.lines k hkl
        rw [if_neg hp] at hsu
        have HSU := Lib.hid hsu
        clear hsu hp
        go_wp2_with ((with_reducible show wpList _ _ _ (Oper.mk (some 19) _ _ _ _ _ :: _) _ _); refine wpList_load_line rfl 110 (.tmp 18) rfl cb (k * 193) rfl (D.lines[k]) hwh _ Try.underlying110 rfl HSZ.out ?_)
        refine (cell_loose (D.lines[k]) HOK.out wr).mono ?_
        rintro e w1 ⟨rfl, o1⟩
        have hown := own_only HO.out o1 (by simp)
        have H2 := Lib.hid hown
        have N2 := Lib.hid (ON.out.trans0 o1)
        clear hown o1
        go_wp2
        go_roundw
        case rel => exact ⟨k + 1, n, by omega, by go_num, by rw [HSU.out]; exact HN.out, by rw [HSU.out]; exact H2.out, N2.out⟩
        case measure => simp [intOf]; omega
    · obtain rfl : k = m := by omega
      obtain ⟨A', c', rfl, _, _⟩ := own_slice ho
      have H1 := Lib.hid ho
      have H2 := Lib.hid on
      clear ho on
      go_wp2
      go_ret
      exact ⟨.slice A' n c', rfl, madeI_own hn.symm H1.out H2.out⟩
set_option maxHeartbeats 1000000 in
theorem nvm_lines_sent (g cb cap : Nat) (D : Dev) (w : World) (hd : DevAt w g cb cap D) :
    Calls Try.prog 62 #[.pointer (some ⟨g, 0, none⟩), .func (.func 66) #[] #[]] w fun e w' => ∃ v, e = .returned v ∧ MadeI w (those (fun x => x.sent) D.lines D.lines.length) v w' := by
  have hf := hd.few
  have HD := Lib.hid hd
  have HL := Lib.hid (nvm_Lines g cb cap D w hd)
  clear hd
  obtain ⟨m, hm⟩ : ∃ m, m = D.lines.length := ⟨_, rfl⟩
  rw [← hm] at hf HL ⊢
  have HM := Lib.hid hm
  clear hm
  obtain ⟨i0, hi, hz0, hz1, hz2⟩ := info_parts Try.intInfo
  have HI := Lib.hid hi
  have HZ0 := Lib.hid hz0
  have HZ1 := Lib.hid hz1
  have HZ2 := Lib.hid hz2
  clear hi hz0 hz1 hz2
  go_enter Try.func62, Try.ntmps62
  go_wp2_with fail
  refine (HL.out).mono ?_
  rintro e w' ⟨rfl, rfl⟩
  go_wp2
  go_loopw [5, 6, 9] (fun v _ i wr => ∃ (k n : Nat), k ≤ m ∧ i = .int .i64 k ∧ n = (those (fun x => x.sent) D.lines k).length ∧ wr.ownsRow w.heap.size 3 1 v n ((those (fun x => x.sent) D.lines k).map (.int .i64)) ∧ Only [] w wr) (fun _ _ i _ => m - (intOf i).toNat)
  case atStart => exact ⟨0, 0, Nat.zero_le _, rfl, rfl, own_nil _ _ _ _, Only.refl _ _⟩
  case round =>
    obtain ⟨k, n, hk, rfl, hn, ho, on⟩ := hrel
    by_cases hlt : k < m
    · have hkl : k < D.lines.length := by rw [← HM.out]; exact hlt
      have hdr := HD.out.only0 on
      have hc0 : wr.cell? ⟨g, 0, none⟩ = some (.slice (some ⟨cb, 0, none⟩) m cap) := by
        rw [hdr.cell 0, HM.out]
        rfl
      have hwh := IsDev.whole hdr hkl
      have hsz : (Try.prog.info? 110).map (·.size) = some (cellsOf D.lines[k]).length := by rw [cellsOf_length (hdr.ok.get hkl)]; exact cellSize
      have hok := hdr.ok.get hkl
      have HSZ := Lib.hid hsz
      have HOK := Lib.hid hok
      have HO := Lib.hid ho
      have ON := Lib.hid on
      have HN := Lib.hid hn
      clear hdr hsz hok ho on hn
      have hnk := those_length (fun x => x.sent) D.lines k
      by_cases hp : (D.lines[k]).sent = true
      · have hsu := those_succ (fun x => x.sent) D.lines k hkl
        rw [if_pos hp] at hsu
        have HSU := Lib.hid hsu
        clear hsu
        go_wp2_with ((with_reducible show wpList _ _ _ (Oper.mk (some 19) _ _ _ _ _ :: _) _ _); refine wpList_load_line rfl 110 (.tmp 18) rfl cb (k * 193) rfl (D.lines[k]) hwh _ Try.underlying110 rfl HSZ.out ?_)
        refine (cell_sent (D.lines[k]) HOK.out wr).mono ?_
        rintro e w1 ⟨rfl, o1⟩
        have hown := own_only HO.out o1 (by simp)
        obtain ⟨A', c', w', hr, ho2, hs2, on2⟩ := append_own (P := Try.prog) (w1.alloc (.cells #[.int .i64 (k : Int)] 3)) ((ON.out.trans0 o1).alloc _) 51 51 3 i0 _ 8 Try.underlying51 HI.out HZ0.out HZ1.out HZ2.out rfl _ n _ (hown.alloc _) (some ⟨w1.heap.size, 0, none⟩) 1 1 [.int .i64 (k : Int)] (cell_new1 _ _ _) (ints_new1 _ _) (by have := HN.out; unfold maxLen; omega) (by have := HN.out; omega)
        rw [show (those (fun x => x.sent) D.lines k).map (Value.int .i64) ++ [.int .i64 (k : Int)] = (those (fun x => x.sent) D.lines (k + 1)).map (.int .i64) by rw [HSU.out]; simp] at ho2
        have H2 := Lib.hid ho2
        have N2 := Lib.hid on2
        clear hown ho2 hs2 on2 o1
        go_wp2_with (at_builtin; refine wpList_append_run _ rfl (.tmp 21) (.tmp 23) 51 rfl _ _ rfl rfl _ _ hr ?_)
        go_roundw
        case rel => exact ⟨k + 1, n + 1, by omega, by go_num, by rw [HSU.out, List.length_append, HN.out]; rfl, H2.out, N2.out⟩
        case measure => simp [intOf]; omega
      · have hp0 : (D.lines[k]).sent = false := by simpa using hp
        have hsu := those_succ (fun x => x.sent) D.lines k hkl
        rw [if_neg hp] at hsu
        have HSU := Lib.hid hsu
        clear hsu hp
        go_wp2_with ((with_reducible show wpList _ _ _ (Oper.mk (some 19) _ _ _ _ _ :: _) _ _); refine wpList_load_line rfl 110 (.tmp 18) rfl cb (k * 193) rfl (D.lines[k]) hwh _ Try.underlying110 rfl HSZ.out ?_)
        refine (cell_sent (D.lines[k]) HOK.out wr).mono ?_
        rintro e w1 ⟨rfl, o1⟩
        have hown := own_only HO.out o1 (by simp)
        have H2 := Lib.hid hown
        have N2 := Lib.hid (ON.out.trans0 o1)
        clear hown o1
        go_wp2
        go_roundw
        case rel => exact ⟨k + 1, n, by omega, by go_num, by rw [HSU.out]; exact HN.out, by rw [HSU.out]; exact H2.out, N2.out⟩
        case measure => simp [intOf]; omega
    · obtain rfl : k = m := by omega
      obtain ⟨A', c', rfl, _, _⟩ := own_slice ho
      have H1 := Lib.hid ho
      have H2 := Lib.hid on
      clear ho on
      go_wp2
      go_ret
      exact ⟨.slice A' n c', rfl, madeI_own hn.symm H1.out H2.out⟩
theorem nvm_Loose (g cb cap : Nat) (D : Dev) (w : World) (hd : DevAt w g cb cap D) :
    Calls Try.prog 32 #[.pointer (some ⟨g, 0, none⟩)] w fun e w' => ∃ v, e = .returned v ∧ MadeI w (those (fun x => x.now != x.kept) D.lines D.lines.length) v w' := by
  have H := Lib.hid (nvm_lines_loose g cb cap D w hd)
  clear hd
  go_enter Try.func32, Try.ntmps32
  go_wp2_with fail
  refine (H.out).mono ?_
  rintro e w1 ⟨_, rfl, A1, c1, rfl, m1, o1⟩
  have M1 := Lib.hid m1
  have O1 := Lib.hid o1
  clear m1 o1
  go_wp2
  go_ret
  exact ⟨.slice A1 _ c1, rfl, A1, c1, rfl, M1.out, O1.out⟩
theorem nvm_Way (g cb cap : Nat) (D : Dev) (w : World) (hd : DevAt w g cb cap D) :
    Calls Try.prog 42 #[.pointer (some ⟨g, 0, none⟩)] w fun e w' => ∃ v, e = .returned v ∧ MadeI w (those (fun x => x.sent) D.lines D.lines.length) v w' := by
  have H := Lib.hid (nvm_lines_sent g cb cap D w hd)
  clear hd
  go_enter Try.func42, Try.ntmps42
  go_wp2_with fail
  refine (H.out).mono ?_
  rintro e w1 ⟨_, rfl, A1, c1, rfl, m1, o1⟩
  have M1 := Lib.hid m1
  have O1 := Lib.hid o1
  clear m1 o1
  go_wp2
  go_ret
  exact ⟨.slice A1 _ c1, rfl, A1, c1, rfl, M1.out, O1.out⟩
end Go.Proofs.Ytkbgoloedlpflaa
/- Classes and slabs in plain Lean. No program in sight. -/
namespace Go.Proofs.FuClass
def span (c : Int) : Nat := if c = 0 then 1 else if c = 1 then 2 else if c = 2 then 4 else if c = 3 then 8 else 0
def capOf (c : Int) : Int := if span c = 0 then 0 else 28 + 63 * ((span c : Int) - 1)
def need (n : Int) : Int := if n < 0 then -1 else if n ≤ 28 then 0 else if n ≤ 91 then 1 else if n ≤ 217 then 2 else if n ≤ 469 then 3 else -1
def slab (k : Int) : Int := if k < 0 ∨ 31 < k then -1 else 2 + 8 * k
def slabOf (line : Int) : Int := if line < 2 ∨ 258 ≤ line then -1 else (line - 2) / 8
def startsTo (f : Int) (s i : Nat) : List Int := (List.range i).map fun j => f + ((j * s : Nat) : Int)
def starts (k c : Int) : List Int := if span c = 0 ∨ slab k < 0 then [] else startsTo (slab k) (span c) (8 / span c)
def home (line c : Int) : Bool := decide (line ∈ starts (slabOf line) c)
theorem span_cases (c : Int) : (c = 0 ∧ span c = 1) ∨ (c = 1 ∧ span c = 2) ∨ (c = 2 ∧ span c = 4) ∨ (c = 3 ∧ span c = 8) ∨ ((c < 0 ∨ 3 < c) ∧ span c = 0) := by
  unfold span
  by_cases h0 : c = 0
  · simp [h0]
  · by_cases h1 : c = 1
    · simp [h1]
    · by_cases h2 : c = 2
      · simp [h2]
      · by_cases h3 : c = 3
        · simp [h3]
        · simp [h0, h1, h2, h3]
          omega
theorem span_le (c : Int) : span c ≤ 8 := by have := span_cases c; omega
theorem capOf_val (c : Int) : (span c = 0 ∧ capOf c = 0) ∨ (span c = 1 ∧ capOf c = 28) ∨ (span c = 2 ∧ capOf c = 91) ∨ (span c = 4 ∧ capOf c = 217) ∨ (span c = 8 ∧ capOf c = 469) := by
  unfold capOf
  have := span_cases c
  split <;> omega
theorem capOf_bd (c : Int) : 0 ≤ capOf c ∧ capOf c ≤ 469 := by have := capOf_val c; omega
theorem capOf0 : capOf 0 = 28 := by decide
theorem capOf1 : capOf 1 = 91 := by decide
theorem capOf2 : capOf 2 = 217 := by decide
theorem capOf3 : capOf 3 = 469 := by decide
/-- the search: no class below k holds so much -/
theorem need_of {n : Int} {k : Nat} (hk : k < 4) (h0 : 0 ≤ n) (hno : ∀ j : Nat, j < k → capOf j < n) (h : n ≤ capOf k) : need n = k := by
  have c0 : capOf ((0 : Nat) : Int) = 28 := capOf0
  have c1 : capOf ((1 : Nat) : Int) = 91 := capOf1
  have c2 : capOf ((2 : Nat) : Int) = 217 := capOf2
  have c3 : capOf ((3 : Nat) : Int) = 469 := capOf3
  have e0 := hno 0
  have e1 := hno 1
  have e2 := hno 2
  rw [c0] at e0
  rw [c1] at e1
  rw [c2] at e2
  unfold need
  obtain rfl | rfl | rfl | rfl : k = 0 ∨ k = 1 ∨ k = 2 ∨ k = 3 := by omega
  · rw [c0] at h
    repeat' split
    all_goals omega
  · rw [c1] at h
    repeat' split
    all_goals omega
  · rw [c2] at h
    repeat' split
    all_goals omega
  · rw [c3] at h
    repeat' split
    all_goals omega
theorem need_no {n : Int} (h : n < 0 ∨ ∀ j : Nat, j < 4 → capOf j < n) : need n = -1 := by
  unfold need
  rcases h with h | h
  · rw [if_pos h]
  · have := h 3 (by omega)
    simp [capOf3] at this
    rw [if_neg (by omega), if_neg (by omega), if_neg (by omega), if_neg (by omega), if_neg (by omega)]
theorem slab_bd (k : Int) : -1 ≤ slab k ∧ slab k ≤ 250 := by
  unfold slab
  split <;> omega
theorem slabOf_bd (l : Int) : -1 ≤ slabOf l ∧ slabOf l ≤ 31 := by
  unfold slabOf
  split <;> omega
theorem startsTo_length (f : Int) (s i : Nat) : (startsTo f s i).length = i := by simp [startsTo]
theorem startsTo_succ (f : Int) (s i : Nat) : startsTo f s (i + 1) = startsTo f s i ++ [f + ((i * s : Nat) : Int)] := by simp [startsTo, List.range_succ]
theorem starts_length (k c : Int) : (starts k c).length ≤ 8 := by
  unfold starts
  split
  · simp
  · rw [startsTo_length]
    exact Nat.div_le_self _ _
/-- where a value stands in a list; -1: nowhere -/
def idx (l : List Int) (v : Int) : Int := if v ∈ l then (l.idxOf v : Int) else -1
theorem idx_none {l : List Int} {v : Int} (h : v ∉ l) : idx l v = -1 := if_neg h
theorem idx_some {l : List Int} {v : Int} {k : Nat} (hk : k < l.length) (he : l[k] = v) (hno : ∀ j (h : j < k), l[j]'(by omega) ≠ v) : idx l v = k := by
  unfold idx
  have hm : v ∈ l := he ▸ List.getElem_mem hk
  rw [if_pos hm]
  congr 1
  have h1 := List.getElem_idxOf (List.idxOf_lt_length_iff.2 hm)
  rcases Nat.lt_trichotomy (l.idxOf v) k with h | h | h
  · exact absurd h1 (hno _ h)
  · exact h
  · have := List.not_of_lt_findIdx (xs := l) (p := (· == v)) h
    simp [he] at this
theorem idx_nonneg (l : List Int) (v : Int) : decide (0 ≤ idx l v) = decide (v ∈ l) := by
  unfold idx
  by_cases h : v ∈ l
  · simp [h]
  · simp [h]
theorem idx_bd (l : List Int) (v : Int) : -1 ≤ idx l v ∧ idx l v ≤ l.length := by
  unfold idx
  split
  · have := List.idxOf_le_length (a := v) (l := l)
    omega
  · omega
end Go.Proofs.FuClass
/- The contracts of package class and of its reference, with what they call of geom. -/
namespace Go.Proofs.Ytkbgoloedlpflaa
open Go.RowKit Go.Proofs.FuMem Go.Proofs.FuClass
set_option maxRecDepth 100000
def NoneBelow (n : Int) (k : Nat) : Prop := ∀ j : Nat, j < k → capOf j < n
theorem NoneBelow.succ {n : Int} {k : Nat} (h : NoneBelow n k) (h2 : capOf k < n) : NoneBelow n (k + 1) := fun j hj => by
  by_cases e : j = k
  · rw [e]; exact h2
  · exact h j (by omega)
end Go.Proofs.Ytkbgoloedlpflaa
/- The contracts of class.Starts, class.Home and of their references; slices.Index, slices.Contains on ints. -/
namespace Go.Proofs.Ytkbgoloedlpflaa
open Go.RowKit Go.Proofs.FuMem Go.Proofs.FuClass
set_option maxRecDepth 100000
theorem index_ints (A : Option Addr) (n c : Nat) (l : List Int) (v : Int) (w : World) (h : Is w A n l) (hn : n ≤ 1000000) :
    Calls Try.prog 72 #[.slice A n c, .int .i64 v] w fun e w' => e = .returned (.int .i64 (idx l v)) ∧ w = w' := by
  have hl := h.len
  have HL := Lib.hid hl
  have HX := Lib.hid h
  clear h hl
  go_enter Try.func72, Try.ntmps72
  go_wp2
  go_loop [5, 8] (fun _ i => ∃ k : Nat, k ≤ n ∧ i = .int .i64 k ∧ ∀ j, j < k → ∀ x, l[j]? = some x → x ≠ v) (fun _ i => n - (intOf i).toNat)
  case atStart => exact ⟨0, Nat.zero_le _, rfl, fun j hj => by omega⟩
  case round =>
    obtain ⟨k, hk, rfl, hno⟩ := hrel
    have HN := Lib.hid hno
    clear hno
    by_cases hlt : k < n
    · obtain ⟨b, f, rfl, hc⟩ := HX.out.at_ (by omega)
      have hkl : k < l.length := by rw [HL.out]; exact hlt
      have hc1 := hc k hkl
      clear hc
      obtain ⟨x, hx⟩ : ∃ x, l[k]? = some x := ⟨_, List.getElem?_eq_getElem hkl⟩
      have hxe : l[k] = x := by
        rw [List.getElem?_eq_getElem hkl] at hx
        exact Option.some.inj hx
      rw [hxe] at hc1
      by_cases hv : x = v
      · subst hv
        have HI := Lib.hid (idx_some hkl hxe (fun j hj => HN.out j hj _ (List.getElem?_eq_getElem (by omega))))
        clear hxe hx
        go_wp2
        go_ret
        exact ⟨ret_int HI.out.symm, rfl⟩
      · have d1 : (v == x) = false := by rw [beq_eq_false_iff_ne]; exact fun e => hv e.symm
        have HV := Lib.hid hv
        have HX1 := Lib.hid hx
        clear hv hxe hx
        go_wp2
        go_round
        case rel =>
          refine ⟨k + 1, by omega, by go_num, fun j hj y hy => ?_⟩
          by_cases e : j = k
          · rw [e, HX1.out] at hy
            rw [← Option.some.inj hy]
            exact HV.out
          · exact HN.out j (by omega) y hy
        case measure => simp [intOf]; omega
    · obtain rfl : k = n := by omega
      have hm : v ∉ l := by
        intro hm
        obtain ⟨j, hj, he⟩ := List.getElem_of_mem hm
        exact HN.out j (by rw [← HL.out]; exact hj) _ (List.getElem?_eq_getElem hj) he
      have HI := Lib.hid (idx_none hm)
      clear hm
      go_wp2
      go_ret
      exact ⟨ret_int HI.out.symm, rfl⟩
theorem contains_ints (A : Option Addr) (n c : Nat) (l : List Int) (v : Int) (w : World) (h : Is w A n l) (hn : n ≤ 1000000) :
    Calls Try.prog 58 #[.slice A n c, .int .i64 v] w fun e w' => e = .returned (.bool (decide (v ∈ l))) ∧ w = w' := by
  have HI := Lib.hid (index_ints A n c l v w h hn)
  have HE := Lib.hid (idx_nonneg l v)
  generalize idx l v = x at *
  clear h
  go_enter Try.func58, Try.ntmps58
  go_wp2_with fail
  refine (HI.out).mono ?_
  rintro e w' ⟨rfl, rfl⟩
  go_wp2
  go_ret
  exact ⟨ret_bool HE.out, rfl⟩
theorem starts_next (f : Int) (s i : Nat) (x : Int) (hx : x = f + ((i * s : Nat) : Int)) : (startsTo f s i).map (Value.int .i64) ++ [.int .i64 x] = (startsTo f s (i + 1)).map (.int .i64) := by
  rw [startsTo_succ, List.map_append, hx]
  rfl
end Go.Proofs.Ytkbgoloedlpflaa
/- The contracts of package nvm, fifth part: the cut. -/
namespace Go.Proofs.Ytkbgoloedlpflaa
open Go.RowKit Go.Proofs.FuMem Go.Proofs.FuNvm Go.Proofs.FuCode
set_option maxRecDepth 100000
/-- append to a slice of the call's own: what stood before the call is as it was -/
theorem append_ownB {P : Program} (w : World) {w0 : World} {T : List Nat} (on : Only T w0 w) (t ty e : TypeId) (i : TypeInfo) (z : Value) (bytes : Nat) (ht : P.underlying t = some (.slice e)) (hi : P.info? e = some i) (hz : i.zero = some z)
    (hsize : i.size = 1) (hby : i.bytes = bytes) (hzs : z.cells.size = 1)
    (v : Value) (n : Nat) (xs : List Value) (hown : w.ownsRow w0.heap.size e 1 v n xs)
    (A : Option Addr) (m c : Nat) (news : List Value) (hr : Sl w A m news) (h1 : ∀ u ∈ news, u.oneCell' = true)
    (h63 : n + m ≤ maxLen) (hbytes : (n + m) * bytes ≤ 140737488355328) :
    ∃ A' c' w', (Builtin.append_ #[t, t] ty #[v, .slice A m c]).run P w = .ok (.slice A' (n + m) c') w' ∧ w'.ownsRow w0.heap.size e 1 (.slice A' (n + m) c') (n + m) (xs ++ news) ∧
      Only T w0 w' ∧ Below w0.heap.size w w' := by
  obtain ⟨v', w', hrun, h2, h3, _⟩ := run_append_sl (P := P) w w0.heap.size t ty e i z bytes ht hi hz hsize hby hzs v n xs hown A m c news hr h1 h63 hbytes on.size
  obtain ⟨A', c', rfl, _, _⟩ := own_slice h2
  have hb : ∀ k, k < w0.heap.size → w'.heap[k]? = w.heap[k]? := fun k hk => h3.block k (Nat.lt_of_lt_of_le hk on.size) (fun e => by have := hown.lt k e.symm; omega)
  refine ⟨A', c', w', hrun, h2, ⟨h3.os.trans on.os, h3.tape.trans on.tape, h3.output.trans on.output, Nat.le_trans on.size h3.size, fun k hk hn => (hb k hk).trans (on.block k hk hn)⟩, ⟨h3.os, h3.tape, h3.output, h3.size, hb⟩⟩
theorem IsDev.below {tD tC : TypeId} {w w' : World} {g cb cap B : Nat} {D : Dev} (h : IsDev tD tC w g cb cap D) (hb : Below B w w') (h1 : g < B) (h2 : cb < B) : IsDev tD tC w' g cb cap D :=
  ⟨(hb.block g h1).trans h.head, let ⟨cs, hbl, hp⟩ := h.body; ⟨cs, (hb.block cb h2).trans hbl, hp⟩, h.ne, h.ok, h.few, h.cap_le⟩
theorem IsDev.ready {tD tC : TypeId} {w : World} {g cb cap : Nat} {D : Dev} (h : IsDev tD tC w g cb cap D) {i : Nat} (hi : i < D.lines.length) :
    ∃ cs, Blk w cb tC cs ∧ (∀ (o : Nat) (l : List UInt8), l.length = 64 → o + 64 ≤ 193 → i * 193 + o + (l.map B).toArray.size ≤ cs.size) ∧
      ∀ (o : Nat) (l : List UInt8) (y : Line), o + l.length ≤ 193 → cellsOf y = (cellsOf D.lines[i]).take o ++ l.map B ++ (cellsOf D.lines[i]).drop (o + (l.map B).length) → y.Ok →
        ∀ w', Blk w' cb tC (FuMem.splice cs (i * 193 + o) (l.map B).toArray.toList) → Only [cb] w w' → IsDev tD tC w' g cb cap { D with lines := D.lines.set i y } := by
  obtain ⟨cs, hb, hp⟩ := h.body
  have hs := body_size h.ok hp
  have hi2 : (i + 1) * 193 ≤ D.lines.length * 193 := Nat.mul_le_mul_right _ hi
  refine ⟨cs, hb, fun o l hl ho => ?_, fun o l y ho hy hyo w' hb' on => ?_⟩
  · rw [List.size_toArray, List.length_map, hl]
    omega
  · exact h.write hi (o := o) (vs := l.map B) (by rw [List.length_map]; exact ho) hy hyo cs hp hb' on
def isLost (keep : List Int) (i : Nat) (x : Line) : Bool := (x.now != x.kept) && !(decide ((i : Int) ∈ keep))
def cutL (keep : List Int) (i : Nat) (x : Line) : Line :=
  if (x.now != x.kept) = true ∧ (i : Int) ∈ keep then { x with kept := x.now, sent := false } else { x with now := x.kept, sent := false }
def lostTo (keep : List Int) (L : List Line) (i : Nat) : List Int := ((List.range i).filter fun j => (L[j]?.map (isLost keep j)).getD false).map fun (j : Nat) => (j : Int)
theorem lostTo_succ (keep : List Int) (L : List Line) (i : Nat) (hi : i < L.length) : lostTo keep L (i + 1) = if isLost keep i L[i] = true then lostTo keep L i ++ [(i : Int)] else lostTo keep L i := by
  unfold lostTo
  rw [List.range_succ, List.filter_append, List.map_append]
  by_cases h : isLost keep i L[i] = true
  · rw [if_pos h]
    simp [List.getElem?_eq_getElem hi, h]
  · rw [if_neg h]
    simp [List.getElem?_eq_getElem hi, h]
theorem lostTo_length (keep : List Int) (L : List Line) (i : Nat) : (lostTo keep L i).length ≤ i := by
  unfold lostTo
  rw [List.length_map]
  exact Nat.le_trans (List.length_filter_le _ _) (by simp)
theorem is_only_pos {w w' : World} {S : List Nat} {A : Option Addr} {n : Nat} {l : List Int} (h : Is w A n l) (ho : Only S w w') (hs : 0 < n → ∀ b off s, A = some ⟨b, off, s⟩ → b ∉ S) : Is w' A n l := by
  rcases Nat.eq_zero_or_pos n with rfl | hp
  · have := h.len
    obtain rfl : l = [] := List.length_eq_zero_iff.1 this
    exact Is.nil _ _
  · exact h.only ho (hs hp)
def cutD (D : Dev) (keep : List Int) : Dev := { D with lines := D.lines.mapIdx (cutL keep), cuts := wrap64 (D.cuts + 1) }
set_option maxHeartbeats 2000000 in
theorem nvm_Cut (g cb cap : Nat) (D : Dev) (A : Option Addr) (an ac : Nat) (keep : List Int) (w : World) (hd : DevAt w g cb cap D) (hk : Is w A an keep) (han : an ≤ 1000000) (hsafe : 0 < an → ∀ b off s, A = some ⟨b, off, s⟩ → b ≠ g ∧ b ≠ cb) :
    Calls Try.prog 28 #[.pointer (some ⟨g, 0, none⟩), .slice A an ac] w fun e w' => ∃ A' c', e = .returned (.tuple #[.slice A' (lostTo keep D.lines D.lines.length).length c', .int .i64 0]) ∧
      w'.ownsRow w.heap.size 3 1 (.slice A' (lostTo keep D.lines D.lines.length).length c') (lostTo keep D.lines D.lines.length).length ((lostTo keep D.lines D.lines.length).map (.int .i64)) ∧ DevAt w' g cb cap (cutD D keep) ∧ Only [g, cb] w w' := by
  have hc : w.cell? ⟨g, 0, none⟩ = some (.slice (some ⟨cb, 0, none⟩) D.lines.length cap) := hd.cell 0
  have hf := hd.few
  have hg1 := hd.lt1
  have hg2 := hd.lt2
  have HD := Lib.hid hd
  have HK := Lib.hid hk
  have HSF := Lib.hid hsafe
  clear hd hk hsafe
  obtain ⟨m, hm⟩ : ∃ m, m = D.lines.length := ⟨_, rfl⟩
  rw [← hm] at hc hf ⊢
  have HM := Lib.hid hm
  clear hm
  obtain ⟨i0, hi, hz0, hz1, hz2⟩ := info_parts Try.intInfo
  have HI := Lib.hid hi
  have HZ0 := Lib.hid hz0
  have HZ1 := Lib.hid hz1
  have HZ2 := Lib.hid hz2
  clear hi hz0 hz1 hz2
  go_enter Try.func28, Try.ntmps28
  go_wp2
  go_loopw [6, 7, 8, 16] (fun v _ _ i wr => ∃ (k n : Nat), k ≤ m ∧ i = .int .i64 k ∧ n = (lostTo keep D.lines k).length ∧ wr.ownsRow w.heap.size 3 1 v n ((lostTo keep D.lines k).map (.int .i64)) ∧ DevAt wr g cb cap { D with lines := upTo (cutL keep) D.lines k } ∧ Only [g, cb] w wr) (fun _ _ _ i _ => m - (intOf i).toNat)
  case atStart => exact ⟨0, 0, Nat.zero_le _, rfl, rfl, own_nil _ _ _ _, by rw [upTo_zero]; exact HD.out, Only.refl _ _⟩
  case round =>
    obtain ⟨k, n, hk, rfl, hn, ho, hd, on⟩ := hrel
    have hnk := lostTo_length keep D.lines k
    have hc0 : wr.cell? ⟨g, 0, none⟩ = some (.slice (some ⟨cb, 0, none⟩) m cap) := by
      rw [hd.cell 0]
      simp [headOf, upTo_length, HM.out]
    by_cases hlt : k < m
    · have hkl : k < D.lines.length := by rw [← HM.out]; exact hlt
      have hkl2 : k < (upTo (cutL keep) D.lines k).length := by rw [upTo_length]; exact hkl
      obtain ⟨hq1, hq2⟩ := List.getElem?_eq_some_iff.1 (upTo_get (cutL keep) D.lines k hkl)
      have hok := HD.out.ok.get hkl
      have hwh := IsDev.whole hd (i := k) hkl2
      simp only [hq2] at hwh
      have hsz : (Try.prog.info? 110).map (·.size) = some (cellsOf D.lines[k]).length := by rw [cellsOf_length hok]; exact cellSize
      have hkeepw := is_only_pos HK.out on (by intro hp b off s e hb; have := HSF.out hp b off s e; simp at hb; omega)
      have hsu := lostTo_succ keep D.lines k hkl
      have hup := upTo_succ (cutL keep) D.lines k hkl
      have HSZ := Lib.hid hsz
      have HOK := Lib.hid hok
      have HO := Lib.hid ho
      have ON := Lib.hid on
      have HN := Lib.hid hn
      have HDR := Lib.hid hd
      have HQ := Lib.hid hq2
      have HKW := Lib.hid hkeepw
      have HSU := Lib.hid hsu
      have HUP := Lib.hid hup
      clear hsz hok ho on hn hd hq2 hkeepw hsu hup
      have HCL := Lib.hid (fun w => cell_loose (D.lines[k]) HOK.out w)
      by_cases hp : ((D.lines[k]).now != (D.lines[k]).kept) = true
      · by_cases hin : (k : Int) ∈ keep
        · have HF := Lib.hid (show cutL keep k (D.lines[k]) = { D.lines[k] with kept := (D.lines[k]).now, sent := false } by unfold cutL; rw [if_pos ⟨hp, hin⟩])
          have HLK := Lib.hid (show isLost keep k (D.lines[k]) = false by unfold isLost; simp [hin])
          have hin' : decide ((k : Int) ∈ keep) = true := by simpa using hin
          clear hin
          go_wp2_with ((with_reducible show wpList _ _ _ (Oper.mk (some 27) _ _ _ _ _ :: _) _ _); refine wpList_load_line rfl 110 (.tmp 26) rfl cb (k * 193) rfl (D.lines[k]) hwh _ Try.underlying110 rfl HSZ.out ?_)
          refine (HCL.out wr).mono ?_
          rintro e w1 ⟨rfl, o1⟩
          have HD1 := Lib.hid (IsDev.only0 HDR.out o1)
          have HW1 := Lib.hid (own_only HO.out o1 (by simp))
          have ON1 := Lib.hid (ON.out.trans0 o1)
          have HK1 := Lib.hid (Is.only0 HKW.out o1)
          clear o1
          go_wp2_with fail
          refine (contains_ints A an ac keep k w1 HK1.out han).mono ?_
          rintro e w' ⟨rfl, rfl⟩
          obtain ⟨cs0, hb0, hfit0, hwr0⟩ := IsDev.ready HD1.out (i := k) (by simpa using hkl2)
          have hnow := IsDev.now HD1.out (i := k) (by simpa using hkl2)
          simp only [HQ.out] at hnow
          have hlen0 : (D.lines[k]).now.length = 64 := HOK.out.1
          rw [← hlen0] at hnow
          have HS10 := Lib.hid (show (Try.prog.info? 108).map (·.size) = some (D.lines[k]).now.length by rw [hlen0]; exact lineSize)
          have HS20 := Lib.hid (show (Try.prog.info? 108).map (·.size) = some ((D.lines[k]).now.map B).toArray.size by rw [List.size_toArray, List.length_map, hlen0]; exact lineSize)
          have hft0 := hfit0 64 ((D.lines[k]).now) hlen0 (by omega)
          have HWR0 := Lib.hid (hwr0 64 ((D.lines[k]).now) { D.lines[k] with kept := (D.lines[k]).now } (by rw [hlen0]; omega) (by simp only [HQ.out]; exact cells_kept _ HOK.out _ hlen0) ⟨hlen0, hlen0, HOK.out.2.2⟩)
          have HL0 := Lib.hid hlen0
          clear hlen0 hfit0 hwr0
          go_wp2_with (first
            | ((with_reducible show wpList _ _ _ (Oper.mk (some 36) _ _ _ _ _ :: _) _ _); refine wpList_load_arr rfl 108 (.tmp 35) rfl cb (k * 193) rfl (D.lines[k]).now hnow 64 5 Try.underlying108 HS10.out ?_)
            | ((with_reducible show wpList _ _ _ (Oper.mk none _ _ _ _ _ :: _) _ _); refine wpList_store_blk rfl 108 (.tmp 38) (.tmp 36) rfl cb (k * 193 + 64) ((D.lines[k]).now.map B).toArray rfl rfl 110 cs0 hb0 hft0 HS20.out (all_B _) ?_; intro w4 hb4 ho4 hs4)
            | ((with_reducible show wpList _ _ _ (Oper.mk (some 46) _ _ _ _ _ :: _) _ _); refine Hid.out ?_))
          have HD4 := Lib.hid (HWR0.out w4 hb4 ho4)
          have HW4 := Lib.hid (own_only HW1.out ho4 (by intro b hb2; have := World.ownsRow.lt HW1.out b hb2; simp; omega))
          have ON4 := Lib.hid (ON1.out.trans ho4 (by simp))
          have HOK4 := Lib.hid (show ({ D.lines[k] with kept := (D.lines[k]).now } : Line).Ok from ⟨HOK.out.1, HOK.out.1, HOK.out.2.2⟩)
          have hc4 : w4.cell? ⟨g, 0, none⟩ = some (.slice (some ⟨cb, 0, none⟩) m cap) := by
            rw [IsDev.cell HD4.out 0]
            simp [headOf, upTo_length, HM.out]
          clear hb4 ho4 hs4 hb0 hft0 hnow
          refine Lib.hid ?_
          obtain ⟨cs, hb, hfit, hwr⟩ := IsDev.ready HD4.out (i := k) (by simpa using hkl2)
          have hkpt := IsDev.kept HD4.out (i := k) (by simpa using hkl2)
          simp only [List.getElem_set_self] at hkpt
          have hlen : ((D.lines[k]).now).length = 64 := HOK4.out.2.1
          have hkpt' : Bs w4 (some ⟨cb, k * 193 + 64, none⟩) ((D.lines[k]).now).length ((D.lines[k]).now) := by rw [hlen]; exact hkpt
          have HS1 := Lib.hid (show (Try.prog.info? 108).map (·.size) = some ((D.lines[k]).now).length by rw [hlen]; exact lineSize)
          have HS2 := Lib.hid (show (Try.prog.info? 108).map (·.size) = some (((D.lines[k]).now).map B).toArray.size by rw [List.size_toArray, List.length_map, hlen]; exact lineSize)
          have hft := hfit 0 ((D.lines[k]).now) hlen (by omega)
          have HWR := Lib.hid (hwr 0 ((D.lines[k]).now) { ({ D.lines[k] with kept := (D.lines[k]).now } : Line) with now := (D.lines[k]).now } (by rw [hlen]; omega) (by simp only [List.getElem_set_self]; exact cells_now _ HOK4.out _ hlen) ⟨hlen, hlen, HOK4.out.2.2⟩)
          clear hkpt hlen hfit hwr
          go_wp2_with (first
            | ((with_reducible show wpList _ _ _ (Oper.mk (some 48) _ _ _ _ _ :: _) _ _); refine wpList_load_arr rfl 108 (.tmp 47) rfl cb (k * 193 + 64) rfl ((D.lines[k]).now) hkpt' 64 5 Try.underlying108 HS1.out ?_)
            | ((with_reducible show wpList _ _ _ (Oper.mk none _ _ _ _ _ :: _) _ _); refine wpList_store_blk rfl 108 (.tmp 50) (.tmp 48) rfl cb (k * 193 + 0) (((D.lines[k]).now).map B).toArray rfl rfl 110 cs hb hft HS2.out (all_B _) ?_; intro w5 hb5 ho5 hs5;
                have hd5 := HWR.out w5 hb5 ho5;
                have hsc := IsDev.sentCell hd5 (i := k) (by simpa using hkl2); have hfz := IsDev.frozen2 hd5 (k * 193 + 192); simp only [List.getElem_set_self] at hsc))
          have hsw := IsDev.setSent hd5 (i := k) (by simpa using hkl2) false
          have he : ∀ D' : Dev, D' = { D with lines := upTo (cutL keep) D.lines (k + 1) } → DevAt (w5.setCell ⟨cb, k * 193 + 192, none⟩ (.bool false)) g cb cap D' → DevAt (w5.setCell ⟨cb, k * 193 + 192, none⟩ (.bool false)) g cb cap { D with lines := upTo (cutL keep) D.lines (k + 1) } := by
            rintro D' rfl h
            exact h
          have HD3 := Lib.hid (he _ (by
            rw [← HUP.out, HF.out]
            simp) hsw.1)
          have hmv := ho5.trans hsw.2 (T := [cb]) (by simp)
          have HR3 := Lib.hid (own_only HW4.out hmv (by intro b hb2; have := World.ownsRow.lt HW4.out b hb2; simp; omega))
          have ON3 := Lib.hid (ON4.out.trans hmv (by simp))
          clear he hsw hd5 hb5 ho5 hb hkpt' hmv hsc hfz
          go_roundw
          case rel => exact ⟨k + 1, n, by omega, by go_num, by rw [HSU.out, HLK.out]; first | exact HN.out | (rw [if_pos rfl, List.length_append, HN.out]; rfl), by rw [HSU.out, HLK.out]; exact HR3.out, HD3.out, ON3.out⟩
          case measure => simp [intOf]; omega
        · have HF := Lib.hid (show cutL keep k (D.lines[k]) = { D.lines[k] with now := (D.lines[k]).kept, sent := false } by unfold cutL; rw [if_neg (fun h => hin h.2)])
          have HLK := Lib.hid (show isLost keep k (D.lines[k]) = true by unfold isLost; simp [hp, hin])
          have hin' : decide ((k : Int) ∈ keep) = false := by simpa using hin
          clear hin
          go_wp2_with ((with_reducible show wpList _ _ _ (Oper.mk (some 27) _ _ _ _ _ :: _) _ _); refine wpList_load_line rfl 110 (.tmp 26) rfl cb (k * 193) rfl (D.lines[k]) hwh _ Try.underlying110 rfl HSZ.out ?_)
          refine (HCL.out wr).mono ?_
          rintro e w1 ⟨rfl, o1⟩
          have HD1 := Lib.hid (IsDev.only0 HDR.out o1)
          have HW1 := Lib.hid (own_only HO.out o1 (by simp))
          have ON1 := Lib.hid (ON.out.trans0 o1)
          have HK1 := Lib.hid (Is.only0 HKW.out o1)
          clear o1
          go_wp2_with fail
          refine (contains_ints A an ac keep k w1 HK1.out han).mono ?_
          rintro e w' ⟨rfl, rfl⟩
          obtain ⟨A2, c2, w2, hr, ho2, on2, bl2⟩ := append_ownB (P := Try.prog) (w1.alloc (.cells #[.int .i64 (k : Int)] 3)) (ON1.out.alloc _) 51 51 3 i0 _ 8 Try.underlying51 HI.out HZ0.out HZ1.out HZ2.out rfl _ n _ (HW1.out.alloc _) (some ⟨w1.heap.size, 0, none⟩) 1 1 [.int .i64 (k : Int)] (cell_new1 _ _ _) (ints_new1 _ _) (by have := HN.out; unfold maxLen; omega) (by have := HN.out; omega)
          rw [show (lostTo keep D.lines k).map (Value.int .i64) ++ [.int .i64 (k : Int)] = (lostTo keep D.lines k ++ [(k : Int)]).map (.int .i64) by simp] at ho2
          have HD2 := Lib.hid (IsDev.below (IsDev.only0 HD1.out ((Only.refl [] w1).alloc (.cells #[.int .i64 (k : Int)] 3))) bl2 hg1 hg2)
          have HW2 := Lib.hid ho2
          have ON2 := Lib.hid on2
          have hc2 : w2.cell? ⟨g, 0, none⟩ = some (.slice (some ⟨cb, 0, none⟩) m cap) := by
            rw [IsDev.cell HD2.out 0]
            simp [headOf, upTo_length, HM.out]
          clear ho2 on2 bl2
          obtain ⟨cs, hb, hfit, hwr⟩ := IsDev.ready HD2.out (i := k) (by simpa using hkl2)
          have hkpt := IsDev.kept HD2.out (i := k) (by simpa using hkl2)
          simp only [HQ.out] at hkpt
          have hlen : ((D.lines[k]).kept).length = 64 := HOK.out.2.1
          have hkpt' : Bs w2 (some ⟨cb, k * 193 + 64, none⟩) ((D.lines[k]).kept).length ((D.lines[k]).kept) := by rw [hlen]; exact hkpt
          have HS1 := Lib.hid (show (Try.prog.info? 108).map (·.size) = some ((D.lines[k]).kept).length by rw [hlen]; exact lineSize)
          have HS2 := Lib.hid (show (Try.prog.info? 108).map (·.size) = some (((D.lines[k]).kept).map B).toArray.size by rw [List.size_toArray, List.length_map, hlen]; exact lineSize)
          have hft := hfit 0 ((D.lines[k]).kept) hlen (by omega)
          have HWR := Lib.hid (hwr 0 ((D.lines[k]).kept) { D.lines[k] with now := (D.lines[k]).kept } (by rw [hlen]; omega) (by simp only [HQ.out]; exact cells_now _ HOK.out _ hlen) ⟨hlen, hlen, HOK.out.2.2⟩)
          clear hkpt hlen hfit hwr
          go_wp2_with (first
            | (at_builtin; refine wpList_append_run _ rfl (.tmp 39) (.tmp 41) 51 rfl _ _ rfl rfl _ _ hr ?_)
            | ((with_reducible show wpList _ _ _ (Oper.mk (some 48) _ _ _ _ _ :: _) _ _); refine wpList_load_arr rfl 108 (.tmp 47) rfl cb (k * 193 + 64) rfl ((D.lines[k]).kept) hkpt' 64 5 Try.underlying108 HS1.out ?_)
            | ((with_reducible show wpList _ _ _ (Oper.mk none _ _ _ _ _ :: _) _ _); refine wpList_store_blk rfl 108 (.tmp 50) (.tmp 48) rfl cb (k * 193 + 0) (((D.lines[k]).kept).map B).toArray rfl rfl 110 cs hb hft HS2.out (all_B _) ?_; intro w5 hb5 ho5 hs5;
                have hd5 := HWR.out w5 hb5 ho5;
                have hsc := IsDev.sentCell hd5 (i := k) (by simpa using hkl2); have hfz := IsDev.frozen2 hd5 (k * 193 + 192); simp only [List.getElem_set_self] at hsc))
          have hsw := IsDev.setSent hd5 (i := k) (by simpa using hkl2) false
          have he : ∀ D' : Dev, D' = { D with lines := upTo (cutL keep) D.lines (k + 1) } → DevAt (w5.setCell ⟨cb, k * 193 + 192, none⟩ (.bool false)) g cb cap D' → DevAt (w5.setCell ⟨cb, k * 193 + 192, none⟩ (.bool false)) g cb cap { D with lines := upTo (cutL keep) D.lines (k + 1) } := by
            rintro D' rfl h
            exact h
          have HD3 := Lib.hid (he _ (by
            rw [← HUP.out, HF.out]
            simp) hsw.1)
          have hmv := ho5.trans hsw.2 (T := [cb]) (by simp)
          have HR3 := Lib.hid (own_only HW2.out hmv (by intro b hb2; have := World.ownsRow.lt HW2.out b hb2; simp; omega))
          have ON3 := Lib.hid (ON2.out.trans hmv (by simp))
          clear he hsw hd5 hb5 ho5 hb hkpt' hmv hsc hfz
          go_roundw
          case rel => exact ⟨k + 1, n + 1, by omega, by go_num, by rw [HSU.out, HLK.out]; first | exact HN.out | (rw [if_pos rfl, List.length_append, HN.out]; rfl), by rw [HSU.out, HLK.out]; exact HR3.out, HD3.out, ON3.out⟩
          case measure => simp [intOf]; omega
      · have hp0 : ((D.lines[k]).now != (D.lines[k]).kept) = false := by simpa using hp
        have HF := Lib.hid (show cutL keep k (D.lines[k]) = { D.lines[k] with now := (D.lines[k]).kept, sent := false } by unfold cutL; rw [if_neg (fun h => hp h.1)])
        have HLK := Lib.hid (show isLost keep k (D.lines[k]) = false by unfold isLost; rw [hp0]; rfl)
        clear hp
        go_wp2_with ((with_reducible show wpList _ _ _ (Oper.mk (some 27) _ _ _ _ _ :: _) _ _); refine wpList_load_line rfl 110 (.tmp 26) rfl cb (k * 193) rfl (D.lines[k]) hwh _ Try.underlying110 rfl HSZ.out ?_)
        refine (HCL.out wr).mono ?_
        rintro e w1 ⟨rfl, o1⟩
        have HD1 := Lib.hid (IsDev.only0 HDR.out o1)
        have HW1 := Lib.hid (own_only HO.out o1 (by simp))
        have ON1 := Lib.hid (ON.out.trans0 o1)
        have HK1 := Lib.hid (Is.only0 HKW.out o1)
        clear o1
        obtain ⟨cs, hb, hfit, hwr⟩ := IsDev.ready HD1.out (i := k) (by simpa using hkl2)
        have hkpt := IsDev.kept HD1.out (i := k) (by simpa using hkl2)
        simp only [HQ.out] at hkpt
        have hlen : ((D.lines[k]).kept).length = 64 := HOK.out.2.1
        have hkpt' : Bs w1 (some ⟨cb, k * 193 + 64, none⟩) ((D.lines[k]).kept).length ((D.lines[k]).kept) := by rw [hlen]; exact hkpt
        have HS1 := Lib.hid (show (Try.prog.info? 108).map (·.size) = some ((D.lines[k]).kept).length by rw [hlen]; exact lineSize)
        have HS2 := Lib.hid (show (Try.prog.info? 108).map (·.size) = some (((D.lines[k]).kept).map B).toArray.size by rw [List.size_toArray, List.length_map, hlen]; exact lineSize)
        have hft := hfit 0 ((D.lines[k]).kept) hlen (by omega)
        have HWR := Lib.hid (hwr 0 ((D.lines[k]).kept) { D.lines[k] with now := (D.lines[k]).kept } (by rw [hlen]; omega) (by simp only [HQ.out]; exact cells_now _ HOK.out _ hlen) ⟨hlen, hlen, HOK.out.2.2⟩)
        clear hkpt hlen hfit hwr
        go_wp2_with (first
          | ((with_reducible show wpList _ _ _ (Oper.mk (some 48) _ _ _ _ _ :: _) _ _); refine wpList_load_arr rfl 108 (.tmp 47) rfl cb (k * 193 + 64) rfl ((D.lines[k]).kept) hkpt' 64 5 Try.underlying108 HS1.out ?_)
          | ((with_reducible show wpList _ _ _ (Oper.mk none _ _ _ _ _ :: _) _ _); refine wpList_store_blk rfl 108 (.tmp 50) (.tmp 48) rfl cb (k * 193 + 0) (((D.lines[k]).kept).map B).toArray rfl rfl 110 cs hb hft HS2.out (all_B _) ?_; intro w5 hb5 ho5 hs5;
              have hd5 := HWR.out w5 hb5 ho5;
              have hsc := IsDev.sentCell hd5 (i := k) (by simpa using hkl2); have hfz := IsDev.frozen2 hd5 (k * 193 + 192); simp only [List.getElem_set_self] at hsc))
        have hsw := IsDev.setSent hd5 (i := k) (by simpa using hkl2) false
        have he : ∀ D' : Dev, D' = { D with lines := upTo (cutL keep) D.lines (k + 1) } → DevAt (w5.setCell ⟨cb, k * 193 + 192, none⟩ (.bool false)) g cb cap D' → DevAt (w5.setCell ⟨cb, k * 193 + 192, none⟩ (.bool false)) g cb cap { D with lines := upTo (cutL keep) D.lines (k + 1) } := by
          rintro D' rfl h
          exact h
        have HD3 := Lib.hid (he _ (by
          rw [← HUP.out, HF.out]
          simp) hsw.1)
        have hmv := ho5.trans hsw.2 (T := [cb]) (by simp)
        have HR3 := Lib.hid (own_only HW1.out hmv (by intro b hb2; have := World.ownsRow.lt HW1.out b hb2; simp; omega))
        have ON3 := Lib.hid (ON1.out.trans hmv (by simp))
        clear he hsw hd5 hb5 ho5 hb hkpt' hmv hsc hfz
        go_roundw
        case rel => exact ⟨k + 1, n, by omega, by go_num, by rw [HSU.out, HLK.out]; first | exact HN.out | (rw [if_pos rfl, List.length_append, HN.out]; rfl), by rw [HSU.out, HLK.out]; exact HR3.out, HD3.out, ON3.out⟩
        case measure => simp [intOf]; omega
    · obtain rfl : k = m := by omega
      have hall : upTo (cutL keep) D.lines k = D.lines.mapIdx (cutL keep) := by rw [HM.out, upTo_all]
      rw [hall] at hd
      obtain ⟨A', c', rfl, _, _⟩ := own_slice ho
      subst hn
      have hc5 := hd.cell 5
      have hf5 := hd.frozen1 5
      have hcnt := IsDev.count (D' := cutD D keep) hd 5 (wrap64 (D.cuts + 1)) rfl (by unfold cutD headOf; simp)
      have HR5 := Lib.hid (own_only ho hcnt.2 (by intro b hb2; have := World.ownsRow.lt ho b hb2; simp; omega))
      have HCN := Lib.hid hcnt
      have ON := Lib.hid on
      clear hd on hall hcnt ho
      go_wp2_with fail
      refine (int64_Add g 5 D.cuts _ hc5 hf5).mono ?_
      rintro e w3 ⟨rfl, rfl⟩
      go_wp2
      go_ret2
      exact ⟨A', c', rfl, HR5.out, HCN.out.1, ON.out.trans HCN.out.2 (by simp)⟩
end Go.Proofs.Ytkbgoloedlpflaa
/- A new device. -/
set_option maxRecDepth 100000
namespace Go.Proofs.FuNvm
open Go.RowKit Go.Proofs.FuMem
def noLine : Line := ⟨List.replicate 64 0, List.replicate 64 0, List.replicate 64 0, false⟩
theorem noLine_ok : noLine.Ok := ⟨rfl, rfl, rfl⟩
def newDev (n : Nat) : Dev := ⟨List.replicate n noLine, 0, 0, 0, 0, 0⟩
theorem madeCells_list (c : List Value) (n : Nat) (_hc : 0 < c.length) : madeCells c.toArray (n * c.length) = (List.replicate n c).flatten.toArray := by
  have h : ∀ n, (List.range (n * c.length)).map (fun i => c.toArray[i % c.toArray.size]!) = (List.replicate n c).flatten := by
    intro n
    induction n with
    | zero => simp
    | succ n ih =>
      rw [Nat.succ_mul, List.range_add, List.map_append, ih, List.replicate_succ', List.flatten_append]
      congr 1
      simp only [List.map_map, List.flatten_cons, List.flatten_nil, List.append_nil]
      apply List.ext_getElem
      · simp
      · intro i h1 h2
        simp only [List.getElem_map, List.getElem_range, Function.comp, List.size_toArray]
        have e : (n * c.length + i) % c.length = i := by rw [Nat.mul_comm, Nat.mul_add_mod, Nat.mod_eq_of_lt h2]
        rw [e]
        simp [h2]
  unfold madeCells
  rw [← h n]
  apply Array.ext'
  simp
theorem flat_replicate (n : Nat) (x : Line) : flat (List.replicate n x) = (List.replicate n (cellsOf x)).flatten := by
  unfold flat
  rw [List.flatMap_def, List.map_replicate]
theorem allOk_new (n : Nat) : AllOk (List.replicate n noLine) := fun x hx => by
  rw [(List.mem_replicate.mp hx).2]; exact noLine_ok
section
variable {P : Program} {w : World}
theorem make_lines (t e : TypeId) (i : TypeInfo) (z : Value) (ht : P.underlying t = some (.slice e)) (hi : P.info? e = some i) (hz : i.zero = some z) (hsize : i.size = 193) (hz1 : z.cells = (cellsOf noLine).toArray)
    (n : Nat) (hbytes : i.bytes * n ≤ 281474976710656) (h63 : n ≤ 9223372036854775807) :
    ∃ w', (Instr.makeSlice t (.int .i64 (n : Int)) (.int .i64 (n : Int))).run P w = .ok (.slice (some ⟨w.heap.size, 0, none⟩) n n) w' ∧
      Blk w' w.heap.size e (flat (List.replicate n noLine)).toArray ∧ Only [] w w' ∧ w'.heap.size = w.heap.size + 1 := by
  have hb : (i.bytes : Int) * (n : Int) ≤ 281474976710656 := by
    have h : ((i.bytes * n : Nat) : Int) ≤ 281474976710656 := by omega
    rwa [Int.natCast_mul] at h
  have hr := run_make (P := P) w t e i z ht hi hz .i64 .i64 n n (by omega) (by omega) hb (by omega)
  simp only [Int.toNat_natCast] at hr
  have hm := madeCells_list (cellsOf noLine) n (by rw [cellsOf_length noLine_ok]; decide)
  rw [cellsOf_length noLine_ok] at hm
  rw [hsize, hz1, hm, ← flat_replicate] at hr
  exact ⟨_, hr, Blk.new _ _ _, (Only.refl _ _).alloc _, by simp⟩
end
end Go.Proofs.FuNvm
namespace Go.Proofs.Ytkbgoloedlpflaa
open Go.RowKit Go.Proofs.FuMem Go.Proofs.FuNvm
theorem cellZero : ∃ i z, Try.prog.info? 110 = some i ∧ i.zero = some z ∧ i.size = 193 ∧ z.cells = (cellsOf noLine).toArray ∧ i.bytes = 193 := ⟨_, _, rfl, rfl, rfl, rfl, rfl⟩
set_option maxHeartbeats 1000000 in
theorem nvm_New (n : Nat) (w : World) (h1 : 1 ≤ n) (h2 : n ≤ 258) :
    Calls Try.prog 33 #[.int .i64 n] w fun e w' => ∃ g cb, e = .returned (.tuple #[.pointer (some ⟨g, 0, none⟩), .int .i64 0]) ∧ DevAt w' g cb n (newDev n) ∧ Only [] w w' ∧ w.heap.size ≤ g ∧ w.heap.size ≤ cb := by
  obtain ⟨ci, cz, hi, hz, hs, hc, hby⟩ := cellZero
  obtain ⟨w1, hr, hb, ho, hg⟩ := make_lines (P := Try.prog) (w := w) 91 110 ci cz rfl hi hz hs hc n (by rw [hby]; omega) (by omega)
  have HB := Lib.hid hb
  have HON := Lib.hid ho
  have HG := Lib.hid hg
  clear hb ho hg hi hz hc
  have hh1 : decide ((n : Int) < 1) = false := by go_num
  have hh2 : decide ((258 : Int) < (n : Int)) = false := by go_num
  go_enter Try.func33, Try.ntmps33
  go_wp2
  go_ret2
  have hal : Only [] w1 (w1.alloc (.cells (headOf w.heap.size n (newDev n)) 100)) := (Only.refl _ _).alloc _
  have hln : (newDev n).lines.length = n := List.length_replicate
  have hhd := Blk.new w1 100 (headOf w.heap.size n (newDev n))
  have hg2 := HG.out
  have he : headOf w.heap.size n (newDev n) = #[.slice (some ⟨w.heap.size, 0, none⟩) n n, .int .i64 0, .int .i64 0, .int .i64 0, .int .i64 0, .int .i64 0] := by
    unfold headOf
    rw [hln]
    rfl
  rw [he] at hal
  refine ⟨w1.heap.size, w.heap.size, rfl, ⟨?_, ⟨_, HB.out.only hal (by simp), ?_⟩, by omega, allOk_new n, by omega, by omega⟩, HON.out.trans0 hal, by omega, Nat.le_refl _⟩
  · rw [he] at hhd ⊢
    exact hhd
  · rw [hln]
    unfold newDev
    have := flat_length (allOk_new n)
    rw [List.length_replicate] at this
    exact List.take_of_length_le (by simp [this])
theorem nvm_New_no (n : Int) (w : World) (h : n < 1 ∨ 258 < n) :
    Calls Try.prog 33 #[.int .i64 n] w fun e w' => e = .returned (.tuple #[.pointer none, .int .i64 2]) ∧ w' = w := by
  by_cases h1 : n < 1
  · have hh1 : decide (n < 1) = true := by simpa using h1
    clear h
    go_enter Try.func33, Try.ntmps33
    go_wp2
    go_ret2
    exact ⟨rfl, rfl⟩
  · have h2 : 258 < n := by omega
    have hh1 : decide (n < 1) = false := by simpa using h1
    have hh2 : decide (258 < n) = true := by simpa using h2
    clear h
    go_enter Try.func33, Try.ntmps33
    go_wp2
    go_ret2
    exact ⟨rfl, rfl⟩
end Go.Proofs.Ytkbgoloedlpflaa
/- Law 3: what every program answers that is one. -/
set_option maxRecDepth 100000
namespace Go.Proofs.Ytkbgoloedlpflaa
open Go.RowKit Go.Proofs.FuMem Go.Proofs.FuNvm Go.Proofs.FuCode
theorem bs_new (w : World) (t : TypeId) (l : List UInt8) : Bs (w.alloc (.cells (l.map B).toArray t)) (some ⟨w.heap.size, 0, none⟩) l.length l := by
  have := Blk.new w t (l.map B).toArray
  exact Sl.of_blk this 0 (by rw [List.drop_zero, List.take_of_length_le (by simp)]) (by simp)
theorem is_new (w : World) (t : TypeId) (l : List Int) : Is (w.alloc (.cells (l.map (Value.int .i64)).toArray t)) (some ⟨w.heap.size, 0, none⟩) l.length l := by
  have := Blk.new w t (l.map (Value.int .i64)).toArray
  exact Sl.of_blk this 0 (by rw [List.drop_zero, List.take_of_length_le (by simp)]) (by simp)
theorem madeB_get {w w' : World} {l : List UInt8} {v : Value} (h : MadeB w l v w') (hl : 0 < l.length) : ∃ g c, v = .slice (some ⟨g, 0, none⟩) l.length c ∧ OwnB 5 w' w.heap.size g l.length c l ∧ w.heap.size ≤ g ∧ Only [] w w' := by
  obtain ⟨A, c, rfl, h, o⟩ := h
  obtain ⟨g, rfl, hb, _, ho⟩ := OwnB.of h hl
  exact ⟨g, c, rfl, ho, hb, o⟩
def seven : Dev := storeD (newDev 2) 0 noLine 1 [7]
end Go.Proofs.Ytkbgoloedlpflaa
/- Acts of law 3: how they lie in memory, and what a device does of them. -/
set_option maxRecDepth 100000
namespace Go.Proofs.FuNvm
open Go.RowKit Go.Proofs.FuMem
structure Deed where
  kind : Int
  line : Int
  pos : Int
  b : List UInt8
  keep : List Int
def lineOf (D : Dev) (i : Int) : Line := D.lines.getD i.toNat noLine
end Go.Proofs.FuNvm
namespace Go.Proofs.Ytkbgoloedlpflaa
open Go.ChangeShapes Go.WideShapes Go.ChangeAt Go.RowKit Go.Proofs.FuMem Go.Proofs.FuNvm Go.Proofs.FuCode Go.Deep
/-- an act's two slices -/
structure Holds where
  bA : Option Addr
  bn : Nat
  bc : Nat
  kA : Option Addr
  kn : Nat
  kc : Nat
def deedV (x : Deed) (s : Holds) : List Value := [.int .i64 x.kind, .int .i64 x.line, .int .i64 x.pos, .slice s.bA s.bn s.bc, .slice s.kA s.kn s.kc]
structure DeedOk (w : World) (x : Deed) (s : Holds) : Prop where
  k1 : -9223372036854775808 ≤ x.kind ∧ x.kind ≤ 9223372036854775807
  k2 : -9223372036854775808 ≤ x.line ∧ x.line ≤ 9223372036854775807
  k3 : -9223372036854775808 ≤ x.pos ∧ x.pos ≤ 9223372036854775807
  bs : Bs w s.bA s.bn x.b
  is : Is w s.kA s.kn x.keep
  m1 : s.bn ≤ maxLen
  m2 : s.kn ≤ maxLen
theorem DeedOk.only0 {w w' : World} {x : Deed} {s : Holds} (h : DeedOk w x s) (o : Only [] w w') : DeedOk w' x s := ⟨h.k1, h.k2, h.k3, h.bs.only0 o, h.is.only0 o, h.m1, h.m2⟩
theorem sl_blocks {w : World} {A : Option Addr} {n : Nat} {xs : List Value} (h : Sl w A n xs) (hn : 0 < n) : ∀ b off s, A = some ⟨b, off, s⟩ → b < w.heap.size := by
  intro b off s e
  obtain ⟨b', off', e', hc⟩ := Sl.at_ h hn
  rw [e'] at e
  cases e
  have hl : xs.length = n := h.1
  have := hc 0 (by omega)
  exact lt_of_cell this
/-- acts in memory -/
def Deeds (w : World) (A : Option Addr) (n : Nat) (xs : List (Deed × Holds)) : Prop :=
  xs.length = n ∧ n ≤ maxLen ∧ (∀ x ∈ xs, DeedOk w x.1 x.2) ∧ (n = 0 ∨ ∃ b off, A = some ⟨b, off, none⟩ ∧ ∀ k x, xs[k]? = some x → w.rangeAt b (off + k * 5) (deedV x.1 x.2))
theorem Deeds.only0 {w w' : World} {A : Option Addr} {n : Nat} {xs : List (Deed × Holds)} (h : Deeds w A n xs) (o : Only [] w w') : Deeds w' A n xs := by
  obtain ⟨h1, h2, h3, h4⟩ := h
  refine ⟨h1, h2, fun x hx => (h3 x hx).only0 o, ?_⟩
  rcases h4 with h4 | ⟨b, off, e, h4⟩
  · exact .inl h4
  · refine .inr ⟨b, off, e, fun k x hk j v hv => ?_⟩
    have hc := h4 k x hk j v hv
    rw [cell_only o (lt_of_cell hc) (by simp)]
    exact hc
theorem open_deeds {H : Type} {enc : TypeId × Value → H} {w : World} {held : Bool} {A : Option Addr} {n c : Nat} {d : DataW H} {p : List MemPlace}
    (h : DataW.Trod enc Try.prog w 0 (fun _ => true) held 36 (.slice A n c) d p) : ∃ xs, Deeds w A n xs ∧ n ≤ c := by
  obtain ⟨h1, h2, h3⟩ := open_table Try.underlying36 Try.underlying82 (by kernel_rfl) (by kernel_rfl) (by decide) h
  rcases h3 with rfl | ⟨b, off, rfl, hf⟩
  · exact ⟨[], ⟨rfl, Nat.zero_le _, by simp, .inl rfl⟩, h1⟩
  have each : ∀ i, i < n → ∃ x s, DeedOk w x s ∧ w.rangeAt b (off + i * 5) (deedV x s) := by
    intro i hi
    obtain ⟨v0, y0, m0, c0, t0⟩ := hf i hi 0 _ rfl
    obtain ⟨v1, y1, m1, c1, t1⟩ := hf i hi 1 _ rfl
    obtain ⟨v2, y2, m2, c2, t2⟩ := hf i hi 2 _ rfl
    obtain ⟨v3, y3, m3, c3, t3⟩ := hf i hi 3 _ rfl
    obtain ⟨v4, y4, m4, c4, t4⟩ := hf i hi 4 _ rfl
    obtain ⟨x0, rfl, b0⟩ := field_int Try.underlying3 t0
    obtain ⟨x1, rfl, b1⟩ := field_int Try.underlying3 t1
    obtain ⟨x2, rfl, b2⟩ := field_int Try.underlying3 t2
    obtain ⟨bA, bn, bc, z3, rfl, r3⟩ := field_slice Try.underlying22 Try.underlying5 (by kernel_rfl) t3
    obtain ⟨kA, kn, kc, z4, rfl, r4⟩ := field_slice Try.underlying51 Try.underlying3 (by kernel_rfl) t4
    obtain ⟨l3, s3, e3⟩ := IsRow.bytes r3
    obtain ⟨l4, ⟨s4, _⟩, e4⟩ := IsRow.ints r4
    refine ⟨⟨x0, x1, x2, l3, l4⟩, ⟨bA, bn, bc, kA, kn, kc⟩, ⟨b0, b1, b2, s3, s4, e3, e4⟩, fun j v hv => ?_⟩
    rw [Nat.add_assoc]
    match j, hv with
    | 0, hv => simp [deedV] at hv; subst hv; exact c0
    | 1, hv => simp [deedV] at hv; subst hv; exact c1
    | 2, hv => simp [deedV] at hv; subst hv; exact c2
    | 3, hv => simp [deedV] at hv; subst hv; exact c3
    | 4, hv => simp [deedV] at hv; subst hv; exact c4
    | j + 5, hv => simp [deedV] at hv
  have all : ∃ xs : List (Deed × Holds), xs.length = n ∧ ∀ k x, xs[k]? = some x → DeedOk w x.1 x.2 ∧ w.rangeAt b (off + k * 5) (deedV x.1 x.2) := by
    clear hf h h1 h2
    induction n with
    | zero => exact ⟨[], rfl, by simp⟩
    | succ n ih =>
      obtain ⟨xs, hl, hx⟩ := ih (fun i hi => each i (by omega))
      obtain ⟨x, s, h1, h2⟩ := each n (by omega)
      refine ⟨xs ++ [(x, s)], by simp [hl], fun k y hk => ?_⟩
      by_cases hkn : k < n
      · rw [List.getElem?_append_left (by omega)] at hk
        exact hx k y hk
      · have hk2 : k < (xs ++ [(x, s)]).length := (List.getElem?_eq_some_iff.1 hk).1
        obtain rfl : k = n := by simp [hl] at hk2; omega
        rw [List.getElem?_append_right (by omega)] at hk
        simp [hl] at hk
        subst hk
        exact ⟨h1, h2⟩
  obtain ⟨xs, hl, hx⟩ := all
  refine ⟨xs, ⟨hl, by omega, fun x hm => ?_, .inr ⟨b, off, rfl, fun k x hk => (hx k x hk).2⟩⟩, h1⟩
  obtain ⟨k, hk⟩ := List.getElem?_of_mem hm
  exact (hx k x hk).1
end Go.Proofs.Ytkbgoloedlpflaa
/- What a device does of an act, whatever its numbers. -/
set_option maxRecDepth 100000
namespace Go.Proofs.Ytkbgoloedlpflaa
open Go.RowKit Go.Proofs.FuMem Go.Proofs.FuNvm Go.Proofs.FuCode
instance (len : Nat) (line at_ n : Int) : Decidable (noPlace len line at_ n) := by unfold noPlace; infer_instance
def ansOf (p : Prop) [Decidable p] : Int := if p then 2 else 0
def store1 (D : Dev) (line pos : Int) (l : List UInt8) : Dev := if noPlace D.lines.length line pos l.length then D else storeD D line.toNat (lineOf D line) pos.toNat l
def flush1 (D : Dev) (line : Int) : Dev := if noPlace D.lines.length line 0 0 then D else flushD D line.toNat (lineOf D line)
def back1 (D : Dev) (line : Int) : Dev := if noPlace D.lines.length line 0 0 then D else backD D line.toNat (lineOf D line)
theorem lineOf_get {D : Dev} {i : Nat} (h : i < D.lines.length) : D.lines[i]? = some (lineOf D i) := by
  unfold lineOf
  rw [Int.toNat_natCast, List.getElem?_eq_getElem h]
  simp [List.getD, List.getElem?_eq_getElem h]
theorem nvm_Store_any (g cb cap : Nat) (D : Dev) (line pos : Int) (A : Option Addr) (n c : Nat) (l : List UInt8) (w : World) (hd : DevAt w g cb cap D) (hl : Bs w A n l) (hn : n ≤ maxLen) :
    Calls Try.prog 36 #[.pointer (some ⟨g, 0, none⟩), .int .i64 line, .int .i64 pos, .slice A n c] w fun e w' => e = .returned (.int .i64 (ansOf (noPlace D.lines.length line pos l.length))) ∧ DevAt w' g cb cap (store1 D line pos l) ∧ Only [g, cb] w w' := by
  have hlen : l.length = n := hl.len
  unfold ansOf store1
  rw [hlen]
  by_cases h : noPlace D.lines.length line pos n
  · rw [if_pos h, if_pos h]
    refine (nvm_Store_no g cb cap D line pos A n c w hd hn h).mono ?_
    rintro e w' ⟨rfl, rfl⟩
    exact ⟨rfl, hd, Only.refl _ _⟩
  · rw [if_neg h, if_neg h]
    have h' := h
    unfold noPlace at h'
    obtain ⟨i, rfl⟩ := Int.eq_ofNat_of_zero_le (show 0 ≤ line by omega)
    obtain ⟨a, rfl⟩ := Int.eq_ofNat_of_zero_le (show 0 ≤ pos by omega)
    rw [Int.toNat_natCast, Int.toNat_natCast]
    exact nvm_Store g cb cap D i a _ (lineOf_get (by omega)) A n c l w hd hl (by omega)
theorem nvm_Flush_any (g cb cap : Nat) (D : Dev) (line : Int) (w : World) (hd : DevAt w g cb cap D) :
    Calls Try.prog 45 #[.pointer (some ⟨g, 0, none⟩), .int .i64 line] w fun e w' => e = .returned (.int .i64 (ansOf (noPlace D.lines.length line 0 0))) ∧ DevAt w' g cb cap (flush1 D line) ∧ Only [g, cb] w w' := by
  unfold ansOf flush1
  by_cases h : noPlace D.lines.length line 0 0
  · rw [if_pos h, if_pos h]
    refine (nvm_Flush_no g cb cap D line w hd h).mono ?_
    rintro e w' ⟨rfl, rfl⟩
    exact ⟨rfl, hd, Only.refl _ _⟩
  · rw [if_neg h, if_neg h]
    have h' := h
    unfold noPlace at h'
    obtain ⟨i, rfl⟩ := Int.eq_ofNat_of_zero_le (show 0 ≤ line by omega)
    rw [Int.toNat_natCast]
    exact nvm_Flush g cb cap D i _ (lineOf_get (by omega)) w hd
theorem nvm_Back_any (g cb cap : Nat) (D : Dev) (line : Int) (w : World) (hd : DevAt w g cb cap D) :
    Calls Try.prog 37 #[.pointer (some ⟨g, 0, none⟩), .int .i64 line] w fun e w' => e = .returned (.int .i64 (ansOf (noPlace D.lines.length line 0 0))) ∧ DevAt w' g cb cap (back1 D line) ∧ Only [g, cb] w w' := by
  unfold ansOf back1
  by_cases h : noPlace D.lines.length line 0 0
  · rw [if_pos h, if_pos h]
    refine (nvm_Back_no g cb cap D line w hd h).mono ?_
    rintro e w' ⟨rfl, rfl⟩
    exact ⟨rfl, hd, Only.refl _ _⟩
  · rw [if_neg h, if_neg h]
    have h' := h
    unfold noPlace at h'
    obtain ⟨i, rfl⟩ := Int.eq_ofNat_of_zero_le (show 0 ≤ line by omega)
    rw [Int.toNat_natCast]
    exact nvm_Back g cb cap D i _ (lineOf_get (by omega)) w hd
def playD (D : Dev) (x : Deed) : Dev :=
  if x.kind = 0 then store1 D x.line x.pos x.b else if x.kind = 1 then flush1 D x.line else if x.kind = 2 then fenceD D else if x.kind = 3 then back1 D x.line else if x.kind = 4 then cutD D x.keep else D
end Go.Proofs.Ytkbgoloedlpflaa
/- Law 3: are acts more than is gone through; a device behind some acts. -/
set_option maxRecDepth 100000
namespace Go.Proofs.Ytkbgoloedlpflaa
open Go.RowKit Go.Proofs.FuMem Go.Proofs.FuNvm Go.Proofs.FuCode
abbrev Big (x : Deed × Holds) : Prop := 100 < x.2.bn ∨ 100 < x.2.kn
def isLarge (xs : List (Deed × Holds)) : Bool := decide (80 < xs.length ∨ ∃ x ∈ xs, Big x)
theorem large_no {xs : List (Deed × Holds)} (h : isLarge xs = false) : xs.length ≤ 80 ∧ ∀ x ∈ xs, x.2.bn ≤ 100 ∧ x.2.kn ≤ 100 := by
  unfold isLarge at h
  rw [decide_eq_false_iff_not] at h
  refine ⟨by omega, fun x hx => ?_⟩
  have : ¬ Big x := fun hb => h (.inr ⟨x, hx, hb⟩)
  unfold Big at this
  omega
def playAll (D : Dev) (xs : List (Deed × Holds)) : Dev := xs.foldl (fun D x => playD D x.1) D
theorem playAll_take {D : Dev} {xs : List (Deed × Holds)} {k : Nat} {x : Deed × Holds} (h : xs[k]? = some x) : playAll D (xs.take (k + 1)) = playD (playAll D (xs.take k)) x.1 := by
  unfold playAll
  rw [List.take_add_one, h]
  simp
end Go.Proofs.Ytkbgoloedlpflaa
/- The walk of the statement NvmFences. -/
set_option maxRecDepth 100000
namespace Go.Proofs.Ytkbgoloedlpflaa
open Go.RowKit Go.Proofs.FuMem Go.Proofs.FuNvm Go.Proofs.FuCode
theorem playD_length (D : Dev) (x : Deed) : (playD D x).lines.length = D.lines.length := by
  unfold playD store1 flush1 back1 storeD flushD backD fenceD cutD
  split
  · split <;> simp
  · split
    · split <;> simp
    · split
      · simp
      · split
        · split <;> simp
        · split <;> simp
theorem playAll_length (D : Dev) (xs : List (Deed × Holds)) : (playAll D xs).lines.length = D.lines.length := by
  unfold playAll
  induction xs generalizing D with
  | nil => rfl
  | cons x xs ih => rw [List.foldl_cons, ih, playD_length]
theorem playAll_8 (xs : List (Deed × Holds)) : (playAll (newDev 8) xs).lines.length = 8 := by rw [playAll_length]; exact List.length_replicate
theorem set_here {L : List Line} {k : Nat} {x : Line} (h : L[k]? = some x) (y : Line) : (L.set k y)[k]? = some y := by
  obtain ⟨hk, _⟩ := List.getElem?_eq_some_iff.1 h
  rw [List.getElem?_set_self hk]
theorem set_else {L : List Line} {k j : Nat} (h : k ≠ j) (y : Line) : (L.set k y)[j]? = L[j]? := List.getElem?_set_ne h
theorem madeB_bs {w w' : World} {l : List UInt8} {v : Value} (h : MadeB w l v w') : ∃ A c, v = .slice A l.length c ∧ Bs w' A l.length l ∧ (∀ b off s, A = some ⟨b, off, s⟩ → w.heap.size ≤ b) ∧ Only [] w w' := by
  obtain ⟨A, c, rfl, h, o⟩ := h
  refine ⟨A, c, rfl, bs_own h, ?_, o⟩
  intro b off s e
  rcases Nat.eq_zero_or_pos l.length with hz | hp
  · rcases h.2 with ⟨e1, _⟩ | ⟨g, c2, cur, hv, hbg, _⟩
    · injection e1 with e1 _ _
      rw [e1] at e
      cases e
    · injection hv with e1 _ _
      rw [e1] at e
      cases e
      exact hbg
  · obtain ⟨g, rfl, hbg, _, _⟩ := OwnB.of h hp
    cases e
    exact hbg
end Go.Proofs.Ytkbgoloedlpflaa
/- Reading an image, in plain Lean: what the program checks, and that it is what the reference answers. -/
namespace Go.Proofs.Ytkbgoloedlpflaa
open Go.Proofs.FuNvm Go.Proofs.FuCode Go.Proofs.FuCrc Go.Proofs.FuImg
set_option maxRecDepth 100000
theorem lineOf_some {D : Dev} {i : Int} {x : Line} (h : D.lines[i.toNat]? = some x) : lineOf D i = x := by
  unfold lineOf
  rw [List.getD, h]
  rfl
theorem store1_len (D : Dev) (line pos : Int) (l : List UInt8) : (store1 D line pos l).lines.length = D.lines.length := by
  unfold store1
  split
  · rfl
  · exact List.length_set
theorem flush1_len (D : Dev) (line : Int) : (flush1 D line).lines.length = D.lines.length := by
  unfold flush1
  split
  · rfl
  · exact List.length_set
theorem back1_len (D : Dev) (line : Int) : (back1 D line).lines.length = D.lines.length := by
  unfold back1
  split
  · rfl
  · exact List.length_set
theorem store1_else {D : Dev} {line pos : Int} {l : List UInt8} {i : Nat} (h : line ≠ (i : Int)) : (store1 D line pos l).lines[i]? = D.lines[i]? := by
  unfold store1
  split
  · rfl
  · rename_i hp
    unfold noPlace at hp
    exact set_else (by omega) _
theorem store1_here {D : Dev} {i pos : Nat} {l : List UInt8} {x : Line} (h : D.lines[i]? = some x) (hp : pos + l.length ≤ 64) : (store1 D i pos l).lines[i]? = some { x with now := over x.now pos l } := by
  unfold store1
  have hi := (List.getElem?_eq_some_iff.1 h).1
  rw [if_neg (by unfold noPlace; omega)]
  have : lineOf D i = x := lineOf_some (by rw [Int.toNat_natCast]; exact h)
  rw [this, Int.toNat_natCast, Int.toNat_natCast]
  exact set_here h _
theorem flush1_else {D : Dev} {line : Int} {i : Nat} (h : line ≠ (i : Int)) : (flush1 D line).lines[i]? = D.lines[i]? := by
  unfold flush1
  split
  · rfl
  · rename_i hp
    unfold noPlace at hp
    exact set_else (by omega) _
theorem flush1_here {D : Dev} {i : Nat} {x : Line} (h : D.lines[i]? = some x) : (flush1 D i).lines[i]? = some (flushL x) := by
  unfold flush1
  have hi := (List.getElem?_eq_some_iff.1 h).1
  rw [if_neg (by unfold noPlace; omega)]
  have : lineOf D i = x := lineOf_some (by rw [Int.toNat_natCast]; exact h)
  rw [this, Int.toNat_natCast]
  exact set_here h _
theorem back1_else {D : Dev} {line : Int} {i : Nat} (h : line ≠ (i : Int)) : (back1 D line).lines[i]? = D.lines[i]? := by
  unfold back1
  split
  · rfl
  · rename_i hp
    unfold noPlace at hp
    exact set_else (by omega) _
theorem back1_here {D : Dev} {i : Nat} {x : Line} (h : D.lines[i]? = some x) : (back1 D i).lines[i]? = some (backL x) := by
  unfold back1
  have hi := (List.getElem?_eq_some_iff.1 h).1
  rw [if_neg (by unfold noPlace; omega)]
  have : lineOf D i = x := lineOf_some (by rw [Int.toNat_natCast]; exact h)
  rw [this, Int.toNat_natCast]
  exact set_here h _
/-- the j-th item of some bytes -/
def itemAt (b : List UInt8) (j : Nat) : Nat × List UInt8 := (num ((b.drop (6 + 66 * j)).take 2), (b.drop (8 + 66 * j)).take 64)
def itemsTo (b : List UInt8) (k : Nat) : List (Nat × List UInt8) := (List.range k).map (itemAt b)
theorem itemsTo_succ (b : List UInt8) (k : Nat) : itemsTo b (k + 1) = itemsTo b k ++ [itemAt b k] := by simp [itemsTo, List.range_succ]
theorem itemsTo_length (b : List UInt8) (k : Nat) : (itemsTo b k).length = k := by simp [itemsTo]
def put1 (D : Dev) (p : Nat × List UInt8) : Dev := back1 (store1 D (p.1 : Int) 0 p.2) (p.1 : Int)
def foldD (n : Nat) (ps : List (Nat × List UInt8)) : Dev := ps.foldl put1 (newDev n)
theorem foldD_snoc (n : Nat) (ps : List (Nat × List UInt8)) (p : Nat × List UInt8) : foldD n (ps ++ [p]) = put1 (foldD n ps) p := by simp [foldD]
/-- items that an image may hold -/
def Good (n : Nat) (ps : List (Nat × List UInt8)) : Prop := ps.Pairwise (fun p q => p.1 < q.1) ∧ ∀ p ∈ ps, p.1 < n ∧ p.2 ≠ zrow
instance (n : Nat) (ps : List (Nat × List UInt8)) : Decidable (Good n ps) := by unfold Good; infer_instance
def lastI (ps : List (Nat × List UInt8)) : Int := match ps.getLast? with
  | some p => (p.1 : Int)
  | none => -1
theorem lastI_snoc (ps : List (Nat × List UInt8)) (p : Nat × List UInt8) : lastI (ps ++ [p]) = (p.1 : Int) := by simp [lastI]
theorem lastI_bd {ps : List (Nat × List UInt8)} (h : ps.Pairwise (fun p q => p.1 < q.1)) : ∀ p ∈ ps, (p.1 : Int) ≤ lastI ps := by
  intro p hp
  rcases List.eq_nil_or_concat ps with rfl | ⟨l, q, rfl⟩
  · cases hp
  · rw [List.concat_eq_append] at h hp ⊢
    rw [lastI_snoc]
    rw [List.pairwise_append] at h
    rcases List.mem_append.1 hp with h1 | h1
    · have := h.2.2 p h1 q (by simp)
      omega
    · rw [List.mem_singleton] at h1
      rw [h1]
      exact Int.le_refl _
theorem lastI_in (ps : List (Nat × List UInt8)) : lastI ps = -1 ∨ ∃ p ∈ ps, lastI ps = (p.1 : Int) := by
  rcases List.eq_nil_or_concat ps with rfl | ⟨l, q, rfl⟩
  · exact .inl rfl
  · rw [List.concat_eq_append, lastI_snoc]
    exact .inr ⟨q, by simp, rfl⟩
theorem good_snoc {n : Nat} {ps : List (Nat × List UInt8)} {p : Nat × List UInt8} (h : Good n ps) : Good n (ps ++ [p]) ↔ lastI ps < (p.1 : Int) ∧ p.1 < n ∧ p.2 ≠ zrow := by
  unfold Good
  rw [List.pairwise_append]
  constructor
  · rintro ⟨⟨_, _, h3⟩, h4⟩
    have := h4 p (by simp)
    refine ⟨?_, this.1, this.2⟩
    rcases lastI_in ps with e | ⟨q, hq, e⟩
    · rw [e]; omega
    · rw [e]
      have := h3 q hq p (by simp)
      omega
  · rintro ⟨h1, h2, h3⟩
    refine ⟨⟨h.1, List.pairwise_singleton _ _, fun q hq r hr => ?_⟩, fun q hq => ?_⟩
    · rw [List.mem_singleton] at hr
      subst hr
      have := lastI_bd h.1 q hq
      omega
    · rcases List.mem_append.1 hq with h4 | h4
      · exact h.2 q h4
      · rw [List.mem_singleton] at h4
        subst h4
        exact ⟨h2, h3⟩
theorem good_take {n : Nat} {ps qs : List (Nat × List UInt8)} (h : Good n (ps ++ qs)) : Good n ps := by
  unfold Good at h ⊢
  rw [List.pairwise_append] at h
  exact ⟨h.1.1, fun p hp => h.2 p (List.mem_append_left _ hp)⟩
/-! ### the items of a device -/
theorem items_good {L : List Line} (k n : Nat) (hk : k ≤ n) : Good n (items L k) ∧ ∀ p ∈ items L k, p.1 < k := by
  induction k with
  | zero => exact ⟨⟨List.Pairwise.nil, fun p hp => by cases hp⟩, fun p hp => by cases hp⟩
  | succ k ih =>
    obtain ⟨h1, h2⟩ := ih (by omega)
    cases hx : L[k]? with
    | none =>
      have : items L (k + 1) = items L k := by unfold items; rw [List.range_succ, List.filterMap_append]; simp [hx]
      rw [this]
      exact ⟨h1, fun p hp => by have := h2 p hp; omega⟩
    | some x =>
      rw [items_succ hx]
      by_cases hz : x.kept = zrow
      · rw [if_pos hz]
        exact ⟨h1, fun p hp => by have := h2 p hp; omega⟩
      · rw [if_neg hz]
        refine ⟨(good_snoc h1).2 ⟨?_, by show k < n; omega, hz⟩, fun p hp => ?_⟩
        · show lastI (items L k) < (k : Int)
          rcases lastI_in (items L k) with e | ⟨q, hq, e⟩
          · rw [e]; omega
          · rw [e]
            have := h2 q hq
            omega
        · rcases List.mem_append.1 hp with h3 | h3
          · have := h2 p h3; omega
          · rw [List.mem_singleton] at h3
            subst h3
            show k < k + 1
            omega
theorem zrow_length : zrow.length = 64 := by simp [zrow]
theorem put1_len (D : Dev) (p : Nat × List UInt8) : (put1 D p).lines.length = D.lines.length := by unfold put1; rw [back1_len, store1_len]
theorem put1_else {D : Dev} {p : Nat × List UInt8} {i : Nat} (h : p.1 ≠ i) : (put1 D p).lines[i]? = D.lines[i]? := by
  unfold put1
  rw [back1_else (by omega), store1_else (by omega)]
theorem put1_here {D : Dev} {p : Nat × List UInt8} {x : Line} (hx : D.lines[p.1]? = some x) (h64 : p.2.length = 64) (hn : x.now.length = 64) : (put1 D p).lines[p.1]? = some ⟨p.2, p.2, x.way, false⟩ := by
  have e : over x.now 0 p.2 = p.2 := by
    have := over_all p.2 x.now 64 h64 hn
    rwa [List.take_of_length_le (by omega)] at this
  have h1 := store1_here (pos := 0) (l := p.2) hx (by omega)
  rw [e] at h1
  exact back1_here h1
theorem foldD_len (n : Nat) (ps : List (Nat × List UInt8)) : (foldD n ps).lines.length = n := by
  have h : ∀ D : Dev, (ps.foldl put1 D).lines.length = D.lines.length := by
    induction ps with
    | nil => exact fun D => rfl
    | cons p ps ih => intro D; rw [List.foldl_cons, ih, put1_len]
  unfold foldD
  rw [h]
  simp [newDev]
theorem snoc_ind {α : Type} {P : List α → Prop} (h0 : P []) (h1 : ∀ l a, P l → P (l ++ [a])) (l : List α) : P l := by
  have h : ∀ n (l : List α), l.length = n → P l := by
    intro n
    induction n with
    | zero =>
      intro l hl
      rw [List.eq_nil_of_length_eq_zero hl]
      exact h0
    | succ n ih =>
      intro l hl
      rcases List.eq_nil_or_concat l with rfl | ⟨k, a, rfl⟩
      · exact h0
      · rw [List.concat_eq_append] at hl ⊢
        exact h1 _ _ (ih k (by simpa using hl))
  exact h _ l rfl
theorem foldD_get {n : Nat} {ps : List (Nat × List UInt8)} (h64 : ∀ p ∈ ps, p.2.length = 64) {i : Nat} (hi : i < n) :
    ∃ x, (foldD n ps).lines[i]? = some x ∧ x.Ok ∧ x.now = x.kept ∧ x.sent = false ∧ ((∃ p ∈ ps, p.1 = i ∧ p.2 = x.kept) ∨ ((∀ p ∈ ps, p.1 ≠ i) ∧ x.kept = zrow)) := by
  revert h64
  refine snoc_ind (P := fun ps => (∀ p ∈ ps, p.2.length = 64) → ∃ x, (foldD n ps).lines[i]? = some x ∧ x.Ok ∧ x.now = x.kept ∧ x.sent = false ∧ ((∃ p ∈ ps, p.1 = i ∧ p.2 = x.kept) ∨ ((∀ p ∈ ps, p.1 ≠ i) ∧ x.kept = zrow))) ?_ ?_ ps
  · exact fun _ => ⟨noLine, by simp [foldD, newDev, hi], noLine_ok, rfl, rfl, .inr ⟨fun p hp => (by cases hp), rfl⟩⟩
  · intro ps p ih h64
    obtain ⟨x, hx, hok, e1, e2, e3⟩ := ih (fun q hq => h64 q (List.mem_append_left _ hq))
    have hp := h64 p (by simp)
    rw [foldD_snoc]
    by_cases hpi : p.1 = i
    · subst hpi
      exact ⟨_, put1_here hx hp hok.1, ⟨hp, hp, hok.2.2⟩, rfl, rfl, .inl ⟨p, by simp, rfl, rfl⟩⟩
    · refine ⟨x, by rw [put1_else hpi]; exact hx, hok, e1, e2, ?_⟩
      rcases e3 with ⟨q, hq, h1, h2⟩ | ⟨h1, h2⟩
      · exact .inl ⟨q, List.mem_append_left _ hq, h1, h2⟩
      · refine .inr ⟨fun q hq => ?_, h2⟩
        rcases List.mem_append.1 hq with h3 | h3
        · exact h1 q h3
        · rw [List.mem_singleton] at h3
          rw [h3]
          exact hpi
theorem filter_at {ps : List (Nat × List UInt8)} (h : ps.Pairwise (fun p q => p.1 < q.1)) {p : Nat × List UInt8} (hp : p ∈ ps) : ps.filter (fun q => decide (q.1 < p.1 + 1)) = ps.filter (fun q => decide (q.1 < p.1)) ++ [p] := by
  induction ps with
  | nil => cases hp
  | cons q ps ih =>
    rw [List.pairwise_cons] at h
    rcases List.mem_cons.1 hp with rfl | hp
    · have e1 : ps.filter (fun q => decide (q.1 < p.1 + 1)) = [] := by
        rw [List.filter_eq_nil_iff]
        intro r hr
        have := h.1 r hr
        simp
        omega
      have e2 : ps.filter (fun q => decide (q.1 < p.1)) = [] := by
        rw [List.filter_eq_nil_iff]
        intro r hr
        have := h.1 r hr
        simp
        omega
      rw [List.filter_cons, List.filter_cons, e1, e2]
      simp
    · have := h.1 p hp
      rw [List.filter_cons, List.filter_cons, ih h.2 hp, if_pos (by simp; omega), if_pos (by simp; omega)]
      rfl
theorem items_fold {n : Nat} {ps : List (Nat × List UInt8)} (h : Good n ps) (h64 : ∀ p ∈ ps, p.2.length = 64) : items (foldD n ps).lines n = ps := by
  have key : ∀ k, k ≤ n → items (foldD n ps).lines k = ps.filter (fun p => decide (p.1 < k)) := by
    intro k
    induction k with
    | zero => intro _; simp [items]
    | succ k ih =>
      intro hk
      obtain ⟨x, hx, _, _, _, e⟩ := foldD_get (n := n) h64 (i := k) (by omega)
      rw [items_succ hx, ih (by omega)]
      rcases e with ⟨p, hp, rfl, e2⟩ | ⟨h1, h2⟩
      · rw [← e2, if_neg (h.2 p hp).2, filter_at h.1 hp]
      · rw [if_pos h2]
        apply List.filter_congr
        intro p hp
        have := h1 p hp
        simp
        omega
  rw [key n (Nat.le_refl _), List.filter_eq_self]
  intro p hp
  simpa using (h.2 p hp).1
theorem foldD_ok {n : Nat} {ps : List (Nat × List UInt8)} (h64 : ∀ p ∈ ps, p.2.length = 64) : AllOk (foldD n ps).lines := by
  intro x hx
  obtain ⟨i, hi, rfl⟩ := List.getElem_of_mem hx
  obtain ⟨y, hy, hok, _⟩ := foldD_get (n := n) h64 (i := i) (by rw [foldD_len] at hi; exact hi)
  rw [List.getElem?_eq_getElem hi] at hy
  cases hy
  exact hok
/-! ### bytes and items -/
theorem lay_num : ∀ (l : List UInt8), lay l.length (num l) = l := by
  intro l
  induction l using snoc_ind with
  | h0 => rfl
  | h1 l a ih =>
    rw [List.length_append, List.length_singleton, lay_succ, num_append]
    have hlt := num_lt l
    have e1 : lay l.length (num l + 256 ^ l.length * num [a]) = lay l.length (num l) := by
      unfold lay
      apply List.map_congr_left
      intro i hi
      have hil : i < l.length := by simpa using hi
      congr 1
      obtain ⟨d, hd⟩ : ∃ d, l.length = i + 1 + d := ⟨l.length - i - 1, by omega⟩
      rw [hd, Nat.pow_add, Nat.pow_succ]
      have h0 : 0 < 256 ^ i := Nat.pow_pos (by omega)
      rw [show 256 ^ i * 256 * 256 ^ d * num [a] = 256 ^ i * (256 * (256 ^ d * num [a])) by simp only [Nat.mul_assoc], Nat.add_mul_div_left _ _ h0, Nat.add_mul_mod_self_left]
    have e2 : (num l + 256 ^ l.length * num [a]) / 256 ^ l.length % 256 = a.toNat := by
      have h0 : 0 < 256 ^ l.length := Nat.pow_pos (by omega)
      rw [Nat.add_mul_div_left _ _ h0, Nat.div_eq_of_lt hlt]
      have := a.toNat_lt
      simp [num]
    rw [e1, e2, ih, UInt8.ofNat_toNat]
theorem flat_drop {qs : List (Nat × List UInt8)} (h : ∀ p ∈ qs, p.2.length = 64) (j : Nat) : (qs.flatMap itemB).drop (66 * j) = (qs.drop j).flatMap itemB := by
  induction qs generalizing j with
  | nil => simp
  | cons q qs ih =>
    cases j with
    | zero => simp
    | succ j =>
      have hq : (itemB q).length = 66 := by have := h q (by simp); simp [itemB, lay_length, this]
      rw [List.flatMap_cons, List.drop_succ_cons, show 66 * (j + 1) = (itemB q).length + 66 * j by rw [hq]; omega, ← List.drop_drop, List.drop_left' rfl]
      exact ih (fun p hp => h p (List.mem_cons_of_mem _ hp)) j
theorem flat_length' {qs : List (Nat × List UInt8)} (h : ∀ p ∈ qs, p.2.length = 64) : (qs.flatMap itemB).length = 66 * qs.length := by
  induction qs with
  | nil => rfl
  | cons q qs ih =>
    have hq : (itemB q).length = 66 := by have := h q (by simp); simp [itemB, lay_length, this]
    rw [List.flatMap_cons, List.length_append, hq, ih (fun p hp => h p (List.mem_cons_of_mem _ hp)), List.length_cons]
    omega
theorem itemAt_of {pre post : List UInt8} (hpre : pre.length = 6) {qs : List (Nat × List UInt8)} (h : ∀ p ∈ qs, p.2.length = 64) (hs : ∀ p ∈ qs, p.1 < 65536) {j : Nat} (hj : j < qs.length) : itemAt (pre ++ qs.flatMap itemB ++ post) j = qs[j] := by
  have hq := h _ (List.getElem_mem hj)
  have h2 := hs _ (List.getElem_mem hj)
  have e1 : (pre ++ qs.flatMap itemB ++ post).drop (6 + 66 * j) = lay 2 qs[j].1 ++ (qs[j].2 ++ ((qs.drop (j + 1)).flatMap itemB ++ post)) := by
    rw [List.append_assoc, ← hpre, ← List.drop_drop, List.drop_left' rfl, List.drop_append_of_le_length (by rw [flat_length' h]; omega), flat_drop h, List.drop_eq_getElem_cons hj, List.flatMap_cons]
    simp [itemB]
  have e2 : (pre ++ qs.flatMap itemB ++ post).drop (8 + 66 * j) = qs[j].2 ++ ((qs.drop (j + 1)).flatMap itemB ++ post) := by
    rw [show 8 + 66 * j = (6 + 66 * j) + 2 by omega, ← List.drop_drop, e1]
    exact List.drop_left' (lay_length 2 _)
  unfold itemAt
  rw [e1, e2]
  refine Prod.ext ?_ ?_
  · show num ((lay 2 qs[j].1 ++ _).take 2) = qs[j].1
    rw [List.take_left' (lay_length 2 _), num_lay_lt 2 _ (by omega)]
  · show (qs[j].2 ++ _).take 64 = qs[j].2
    rw [List.take_left' hq]
/-! ### the two readings -/
def nOf (b : List UInt8) : Nat := num ((b.drop 4).take 2)
def kOf (b : List UInt8) : Nat := (b.length - 10) / 66
def okB (b : List UInt8) : Prop := 10 ≤ b.length ∧ b.take 4 = [70, 83, 73, 49] ∧ (b.length - 10) % 66 = 0 ∧ 1 ≤ nOf b ∧ nOf b ≤ 258 ∧ crc (b.take (b.length - 4)) = num (b.drop (b.length - 4))
instance (b : List UInt8) : Decidable (okB b) := by unfold okB; infer_instance
def foldB (b : List UInt8) : Dev := foldD (nOf b) (itemsTo b (kOf b))
def loadP (b : List UInt8) : Option Dev := if okB b ∧ Good (nOf b) (itemsTo b (kOf b)) then some (foldB b) else none
def okR (b : List UInt8) : Prop := 10 ≤ b.length ∧ 1 ≤ nOf b ∧ nOf b ≤ 258 ∧ imgOf (foldB b) = b
instance (b : List UInt8) : Decidable (okR b) := by unfold okR; infer_instance
def loadR (b : List UInt8) : Option Dev := if okR b then some (foldB b) else none
theorem itemsTo_64 {b : List UInt8} {k : Nat} (h : 6 + 66 * k ≤ b.length) : ∀ p ∈ itemsTo b k, p.2.length = 64 := by
  intro p hp
  unfold itemsTo at hp
  rw [List.mem_map] at hp
  obtain ⟨j, hj, rfl⟩ := hp
  rw [List.mem_range] at hj
  show ((b.drop (8 + 66 * j)).take 64).length = 64
  rw [List.length_take, List.length_drop]
  omega
theorem itemsTo_flat {b : List UInt8} {k : Nat} (h : 6 + 66 * k ≤ b.length) : (itemsTo b k).flatMap itemB = (b.drop 6).take (66 * k) := by
  induction k with
  | zero => simp [itemsTo]
  | succ k ih =>
    rw [itemsTo_succ, List.flatMap_append, ih (by omega), show 66 * (k + 1) = 66 * k + 66 by omega, List.take_add, List.drop_drop, List.flatMap_singleton]
    congr 1
    unfold itemB itemAt
    have e1 : ((b.drop (6 + 66 * k)).take 2).length = 2 := by rw [List.length_take, List.length_drop]; omega
    have e2 := lay_num ((b.drop (6 + 66 * k)).take 2)
    rw [e1] at e2
    show lay 2 (num ((b.drop (6 + 66 * k)).take 2)) ++ (b.drop (8 + 66 * k)).take 64 = (b.drop (6 + 66 * k)).take 66
    rw [e2, show (66 : Nat) = 2 + 64 from rfl, List.take_add, List.drop_drop, show 6 + 66 * k + 2 = 8 + 66 * k by omega]
theorem img_of_ok {b : List UInt8} (h : okB b) : imgB (nOf b) (itemsTo b (kOf b)) = b := by
  obtain ⟨h1, h2, h3, h4, h5, h6⟩ := h
  have hk : b.length = 10 + 66 * kOf b := by unfold kOf; omega
  have hb : bodyB (nOf b) (itemsTo b (kOf b)) = b.take (b.length - 4) := by
    unfold bodyB headB
    rw [itemsTo_flat (by omega), ← h2]
    have e1 : ((b.drop 4).take 2).length = 2 := by rw [List.length_take, List.length_drop]; omega
    have e2 := lay_num ((b.drop 4).take 2)
    rw [e1] at e2
    show b.take 4 ++ lay 2 (num ((b.drop 4).take 2)) ++ _ = _
    rw [e2, show b.length - 4 = 4 + (2 + 66 * kOf b) by omega, List.take_add, List.take_add, List.drop_drop, List.append_assoc]
  unfold imgB
  rw [hb, h6]
  have e1 : (b.drop (b.length - 4)).length = 4 := by rw [List.length_drop]; omega
  have e2 := lay_num (b.drop (b.length - 4))
  rw [e1] at e2
  rw [e2, List.take_append_drop]
theorem parse_img {n : Nat} {qs : List (Nat × List UInt8)} (hn : n < 65536) (h : ∀ p ∈ qs, p.2.length = 64) (hs : ∀ p ∈ qs, p.1 < 65536) :
    (imgB n qs).length = 10 + 66 * qs.length ∧ (imgB n qs).take 4 = [70, 83, 73, 49] ∧ nOf (imgB n qs) = n ∧ kOf (imgB n qs) = qs.length ∧ crc ((imgB n qs).take ((imgB n qs).length - 4)) = num ((imgB n qs).drop ((imgB n qs).length - 4)) ∧ itemsTo (imgB n qs) qs.length = qs := by
  have hbl : (bodyB n qs).length = 6 + 66 * qs.length := by unfold bodyB; rw [List.length_append, headB_length, flat_length' h]
  have hl : (imgB n qs).length = 10 + 66 * qs.length := by unfold imgB; rw [List.length_append, hbl, lay_length]; omega
  refine ⟨hl, rfl, ?_, ?_, ?_, ?_⟩
  · show num (([70, 83, 73, 49] ++ lay 2 n ++ qs.flatMap itemB ++ lay 4 _).drop 4 |>.take 2) = n
    rw [List.append_assoc, List.append_assoc]
    show num ((lay 2 n ++ (qs.flatMap itemB ++ lay 4 (crc (bodyB n qs)))).take 2) = n
    rw [List.take_left' (lay_length 2 n), num_lay_lt 2 n (by omega)]
  · unfold kOf; rw [hl]; omega
  · rw [hl, show 10 + 66 * qs.length - 4 = 6 + 66 * qs.length by omega]
    unfold imgB
    rw [List.take_left' hbl, List.drop_left' hbl, num_lay_lt 4 _ (by have := crc_lt (bodyB n qs); omega)]
  · apply List.ext_getElem?
    intro j
    unfold itemsTo
    rw [List.getElem?_map]
    by_cases hj : j < qs.length
    · rw [List.getElem?_range hj, List.getElem?_eq_getElem hj]
      show some (itemAt (imgB n qs) j) = some qs[j]
      congr 1
      exact itemAt_of (headB_length n) h hs hj
    · rw [List.getElem?_eq_none (by simp; omega), List.getElem?_eq_none (by omega)]
      rfl
theorem load_eq (b : List UInt8) : loadP b = loadR b := by
  unfold loadP loadR
  have key : (okB b ∧ Good (nOf b) (itemsTo b (kOf b))) ↔ okR b := by
    constructor
    · rintro ⟨h, hg⟩
      have hi := img_of_ok h
      obtain ⟨h1, h2, h3, h4, h5, h6⟩ := h
      refine ⟨h1, h4, h5, ?_⟩
      unfold imgOf foldB
      rw [foldD_len, items_fold hg (itemsTo_64 (by unfold kOf; omega))]
      exact hi
    · rintro ⟨h1, h4, h5, h⟩
      have h64 := itemsTo_64 (b := b) (k := kOf b) (by unfold kOf; omega)
      have hok := foldD_ok (n := nOf b) h64
      have hgood := (items_good (L := (foldB b).lines) (nOf b) (nOf b) (Nat.le_refl _)).1
      have hrow : ∀ p ∈ items (foldB b).lines (nOf b), p.2.length = 64 := by
        intro p hp
        unfold items at hp
        rw [List.mem_filterMap] at hp
        obtain ⟨i, _, hi⟩ := hp
        cases hx : (foldB b).lines[i]? with
        | none => rw [hx] at hi; cases hi
        | some x =>
          rw [hx] at hi
          simp only at hi
          split at hi
          · cases hi
          · cases hi
            exact (hok x (List.mem_of_getElem? hx)).2.1
      have e : imgB (nOf b) (items (foldB b).lines (nOf b)) = b := by
        unfold imgOf at h
        have hl : (foldB b).lines.length = nOf b := foldD_len _ _
        rwa [hl] at h
      have hp := parse_img (n := nOf b) (by omega) hrow (fun p hp => by have := (hgood.2 p hp).1; omega)
      rw [e] at hp
      obtain ⟨p1, p2, p3, p4, p5, p6⟩ := hp
      rw [← p4] at p6
      exact ⟨⟨h1, p2, by omega, h4, h5, p5⟩, by rw [p6]; exact hgood⟩
  by_cases hc : okR b
  · rw [if_pos hc, if_pos (key.2 hc)]
  · rw [if_neg hc, if_neg (fun h => hc (key.1 h))]
end Go.Proofs.Ytkbgoloedlpflaa
/- The walk of the statement NvmKeeps. -/
set_option maxRecDepth 100000
namespace Go.Proofs.Ytkbgoloedlpflaa
open Go.RowKit Go.Proofs.FuMem Go.Proofs.FuNvm Go.Proofs.FuCode
/-- line k has these bytes, in both copies, and nothing else is on its way -/
def Stays (k : Nat) (l : List UInt8) (D : Dev) : Prop := ∃ x, D.lines[k]? = some x ∧ x.now = l ∧ x.kept = l ∧ (x.sent = true → x.way = l)
theorem stays_set {k : Nat} {l : List UInt8} {D : Dev} {i : Int} {y : Line} {L : List Line} (h : Stays k l D) (_hi : 0 ≤ i ∧ i.toNat < D.lines.length) (hL : L = D.lines.set i.toNat y)
    (hy : i.toNat = k → y.now = l ∧ y.kept = l ∧ (y.sent = true → y.way = l)) : ∃ x, L[k]? = some x ∧ x.now = l ∧ x.kept = l ∧ (x.sent = true → x.way = l) := by
  obtain ⟨x, hx, h1⟩ := h
  subst hL
  by_cases he : i.toNat = k
  · subst he
    exact ⟨y, set_here hx y, hy rfl⟩
  · exact ⟨x, (set_else he _).trans hx, h1⟩
theorem stays_line {k : Nat} {l : List UInt8} {D : Dev} {i : Int} (h : Stays k l D) (he : i.toNat = k) : (lineOf D i).now = l ∧ (lineOf D i).kept = l ∧ ((lineOf D i).sent = true → (lineOf D i).way = l) := by
  obtain ⟨x, hx, h1⟩ := h
  have : lineOf D i = x := by unfold lineOf; rw [he, List.getD, hx]; rfl
  rw [this]
  exact h1
theorem stays_play {k : Nat} {l : List UInt8} {D : Dev} {x : Deed} (h : Stays k l D) (hx : ¬ (x.kind = 0 ∧ x.line = (k : Int))) : Stays k l (playD D x) := by
  unfold playD
  split
  · unfold store1
    split
    · exact h
    · rename_i h0 hp
      unfold noPlace at hp
      exact stays_set h (by omega) rfl (fun he => absurd ⟨h0, by omega⟩ hx)
  split
  · unfold flush1
    split
    · exact h
    · rename_i hp
      unfold noPlace at hp
      refine stays_set h (by omega) rfl (fun he => ?_)
      obtain ⟨h1, h2, h3⟩ := stays_line h he
      exact ⟨h1, h2, fun _ => h1⟩
  split
  · obtain ⟨x, hx, h1, h2, h3⟩ := h
    refine ⟨fenceL x, by unfold fenceD; rw [List.getElem?_map, hx]; rfl, ?_⟩
    unfold fenceL
    split
    · rename_i hs
      exact ⟨h1, h3 hs, fun h => by cases h⟩
    · exact ⟨h1, h2, h3⟩
  split
  · unfold back1
    split
    · exact h
    · rename_i hp
      unfold noPlace at hp
      refine stays_set h (by omega) rfl (fun he => ?_)
      obtain ⟨h1, h2, h3⟩ := stays_line h he
      exact ⟨h1, h1, fun h => by cases h⟩
  split
  · obtain ⟨y, hy, h1, h2, h3⟩ := h
    refine ⟨cutL x.keep k y, by unfold cutD; rw [List.getElem?_mapIdx, hy]; rfl, ?_⟩
    unfold cutL
    split
    · exact ⟨h1, h1, fun h => by cases h⟩
    · exact ⟨h2, h2, fun h => by cases h⟩
  · exact h
end Go.Proofs.Ytkbgoloedlpflaa
/- The walk of the statement NvmSorted. -/
set_option maxRecDepth 100000
namespace Go.Proofs.Ytkbgoloedlpflaa
open Go.RowKit Go.Proofs.FuMem Go.Proofs.FuNvm Go.Proofs.FuCode
theorem those_prefix (p : Line → Bool) (L : List Line) {i j : Nat} (h : i ≤ j) : those p L i <+: those p L j := by
  unfold those
  obtain ⟨d, rfl⟩ := Nat.exists_eq_add_of_le h
  rw [List.range_add, List.filter_append, List.map_append]
  exact List.prefix_append _ _
theorem those_at (p : Line → Bool) (L : List Line) {i : Nat} {x : Line} (hx : L[i]? = some x) (hp : p x = true) (hi : i < L.length) : (those p L L.length)[(those p L i).length]? = some (i : Int) := by
  have h1 := those_prefix p L (Nat.succ_le_of_lt hi)
  obtain ⟨_, rfl⟩ := List.getElem?_eq_some_iff.1 hx
  rw [those_succ p L i hi, if_pos hp] at h1
  obtain ⟨t, ht⟩ := h1
  rw [← ht, List.append_assoc, List.getElem?_append_right (Nat.le_refl _), Nat.sub_self]
  rfl
theorem those_bd (p : Line → Bool) (L : List Line) (m : Nat) {v : Int} (h : v ∈ those p L m) : 0 ≤ v ∧ v < m := by
  unfold those at h
  obtain ⟨j, hj, rfl⟩ := List.mem_map.1 h
  have := List.mem_range.1 (List.mem_filter.1 hj).1
  omega
theorem those_rise (p : Line → Bool) (L : List Line) (m : Nat) : (those p L m).Pairwise (· < ·) := by
  unfold those
  rw [List.pairwise_map]
  refine List.Pairwise.imp (fun h => ?_) (List.Pairwise.filter _ List.pairwise_lt_range)
  omega
theorem those_few (p : Line → Bool) (L : List Line) (m : Nat) : (those p L m).length ≤ m := by
  unfold those
  rw [List.length_map]
  exact Nat.le_trans (List.length_filter_le _ _) (by rw [List.length_range]; exact Nat.le_refl _)
theorem madeI_is {w w' : World} {l : List Int} {v : Value} (h : MadeI w l v w') : ∃ A c, v = .slice A l.length c ∧ Is w' A l.length l ∧ Only [] w w' := by
  obtain ⟨A, c, rfl, h, o⟩ := h
  exact ⟨A, c, rfl, is_own h, o⟩
end Go.Proofs.Ytkbgoloedlpflaa
/- Of no device each call says so. -/
set_option maxRecDepth 100000
namespace Go.Proofs.Ytkbgoloedlpflaa
open Go.RowKit Go.Proofs.FuMem Go.Proofs.FuNvm Go.Proofs.FuCode
theorem none_there (a b c : Int) (w : World) : Calls Try.prog 60 #[.pointer none, .int .i64 a, .int .i64 b, .int .i64 c] w fun e w' => e = .returned (.int .i64 1) ∧ w = w' := by
  go_enter Try.func60, Try.ntmps60
  go_wp2
  go_ret
  exact ⟨rfl, rfl⟩
theorem none_Load (i : Int) (w : World) : Calls Try.prog 30 #[.pointer none, .int .i64 i] w fun e w' => e = .returned (.tuple #[.slice none 0 0, .int .i64 1]) ∧ w = w' := by
  go_enter Try.func30, Try.ntmps30
  go_wp2_with fail
  refine (none_there _ _ _ _).mono ?_
  rintro e w' ⟨rfl, rfl⟩
  go_wp2
  go_ret2
  exact ⟨rfl, rfl⟩
theorem none_Durable (i : Int) (w : World) : Calls Try.prog 31 #[.pointer none, .int .i64 i] w fun e w' => e = .returned (.tuple #[.slice none 0 0, .int .i64 1]) ∧ w = w' := by
  go_enter Try.func31, Try.ntmps31
  go_wp2_with fail
  refine (none_there _ _ _ _).mono ?_
  rintro e w' ⟨rfl, rfl⟩
  go_wp2
  go_ret2
  exact ⟨rfl, rfl⟩
theorem none_Cut (A : Option Addr) (n c : Nat) (w : World) : Calls Try.prog 28 #[.pointer none, .slice A n c] w fun e w' => e = .returned (.tuple #[.slice none 0 0, .int .i64 1]) ∧ w = w' := by
  go_enter Try.func28, Try.ntmps28
  go_wp2
  go_ret2
  exact ⟨rfl, rfl⟩
theorem none_Store (i a : Int) (A : Option Addr) (n c : Nat) (w : World) : Calls Try.prog 36 #[.pointer none, .int .i64 i, .int .i64 a, .slice A n c] w fun e w' => e = .returned (.int .i64 1) ∧ w = w' := by
  go_enter Try.func36, Try.ntmps36
  go_wp2_with fail
  refine (none_there _ _ _ _).mono ?_
  rintro e w' ⟨rfl, rfl⟩
  go_wp2
  go_ret
  exact ⟨rfl, rfl⟩
theorem none_Flush (i : Int) (w : World) : Calls Try.prog 45 #[.pointer none, .int .i64 i] w fun e w' => e = .returned (.int .i64 1) ∧ w = w' := by
  go_enter Try.func45, Try.ntmps45
  go_wp2_with fail
  refine (none_there _ _ _ _).mono ?_
  rintro e w' ⟨rfl, rfl⟩
  go_wp2
  go_ret
  exact ⟨rfl, rfl⟩
theorem none_Back (i : Int) (w : World) : Calls Try.prog 37 #[.pointer none, .int .i64 i] w fun e w' => e = .returned (.int .i64 1) ∧ w = w' := by
  go_enter Try.func37, Try.ntmps37
  go_wp2_with fail
  refine (none_there _ _ _ _).mono ?_
  rintro e w' ⟨rfl, rfl⟩
  go_wp2
  go_ret
  exact ⟨rfl, rfl⟩
theorem none_Fence (w : World) : Calls Try.prog 47 #[.pointer none] w fun e w' => e = .returned (.int .i64 1) ∧ w = w' := by
  go_enter Try.func47, Try.ntmps47
  go_wp2
  go_ret
  exact ⟨rfl, rfl⟩
theorem none_Lines (w : World) : Calls Try.prog 29 #[.pointer none] w fun e w' => e = .returned (.int .i64 0) ∧ w = w' := by
  go_enter Try.func29, Try.ntmps29
  go_wp2
  go_ret
  exact ⟨rfl, rfl⟩
theorem none_lines (f : Value) (w : World) : Calls Try.prog 62 #[.pointer none, f] w fun e w' => e = .returned (.slice none 0 0) ∧ w = w' := by
  go_enter Try.func62, Try.ntmps62
  go_wp2_with fail
  refine (none_Lines _).mono ?_
  rintro e w' ⟨rfl, rfl⟩
  go_wp2
  go_loopw [5, 6, 9] (fun v _ i wr => v = .slice none 0 0 ∧ i = .int .i64 0 ∧ w = wr) (fun _ _ _ _ => 0)
  case atStart => exact ⟨rfl, rfl, rfl⟩
  case round =>
    obtain ⟨rfl, rfl, rfl⟩ := hrel
    go_wp2
    go_ret
    exact ⟨rfl, rfl⟩
theorem none_Loose (w : World) : Calls Try.prog 32 #[.pointer none] w fun e w' => e = .returned (.slice none 0 0) ∧ w = w' := by
  go_enter Try.func32, Try.ntmps32
  go_wp2_with fail
  refine (none_lines _ _).mono ?_
  rintro e w' ⟨rfl, rfl⟩
  go_wp2
  go_ret
  exact ⟨rfl, rfl⟩
theorem none_Way (w : World) : Calls Try.prog 42 #[.pointer none] w fun e w' => e = .returned (.slice none 0 0) ∧ w = w' := by
  go_enter Try.func42, Try.ntmps42
  go_wp2_with fail
  refine (none_lines _ _).mono ?_
  rintro e w' ⟨rfl, rfl⟩
  go_wp2
  go_ret
  exact ⟨rfl, rfl⟩
theorem none_Counts (w : World) : Calls Try.prog 19 #[.pointer none] w fun e w' => e = .returned (.agg #[.int .i64 0, .int .i64 0, .int .i64 0, .int .i64 0, .int .i64 0]) ∧ Only [] w w' := by
  go_enter Try.func19, Try.ntmps19
  go_wp2
  refine bodyPost_ret (results_cell_row rfl _ _ w.heap.size 45 _ _ _ rfl (Blk.new w 45 #[.int .i64 0, .int .i64 0, .int .i64 0, .int .i64 0, .int .i64 0]) Try.underlying45 rfl (by kernel_rfl)) rfl ⟨rfl, (Only.refl _ _).alloc _⟩
end Go.Proofs.Ytkbgoloedlpflaa
