/- The contracts of the reference of chapter 3, second part: flush, back. -/
import Derived.Test.YtfafpggppbolkaaRef3A
namespace Go.Proofs.Ytfafpggppbolkaa
open Go.RowKit Go.Proofs.FuMem Go.Proofs.FuNvm Go.Proofs.FuCode
set_option maxRecDepth 100000
set_option maxHeartbeats 1000000 in
theorem ref3_Flush (g cb cap : Nat) (D : Dev) (i : Nat) (x : Line) (hx : D.lines[i]? = some x) (w : World) (hd : RefAt w g cb cap D) :
    Calls Try.prog 79 #[.pointer (some ⟨g, 0, none⟩), .int .i64 i] w fun e w' => e = .returned (.int .i64 0) ∧ RefAt w' g cb cap (flushD D i x) ∧ Only [g, cb] w w' := by
  obtain ⟨hi, rfl⟩ := List.getElem?_eq_some_iff.1 hx
  have hc : w.cell? ⟨g, 0, none⟩ = some (.slice (some ⟨cb, 0, none⟩) D.lines.length cap) := hd.cell 0
  have hf := hd.few
  have HT := Lib.hid (ref3_Has_yes g cb cap D i w hd (by omega))
  have HD := Lib.hid hd
  have hok := hd.ok.get hi
  have hlen := hok.1
  have hsz : (Try.prog.info? 91).map (·.size) = some (D.lines[i]).now.length := by rw [hlen]; exact arrSize3
  have hsz2 : (Try.prog.info? 91).map (·.size) = some ((D.lines[i]).now.map B).toArray.size := by rw [List.size_toArray, List.length_map, hlen]; exact arrSize3
  have hne := hd.ne
  have hne2 := hd.ne.symm
  have HOK := Lib.hid hok
  have HLEN := Lib.hid hlen
  have HS1 := Lib.hid hsz
  have HS2 := Lib.hid hsz2
  clear hok hlen hsz hsz2 hd hx
  go_enter Try.func79, Try.ntmps79
  go_wp2_with fail
  refine (HT.out).mono ?_
  rintro e w' ⟨rfl, rfl⟩
  go_wp2_with fail
  refine wp_region_still_tail 15 (by kernel_rfl) (by kernel_rfl) ?_
  simp only [List.take_succ_cons, List.take_zero, List.drop_succ_cons, List.drop_zero]
  generalize hwd : ({ w with drawn := w.drawn + 1 } : World) = wd
  have hcd : wd.cell? ⟨g, 0, none⟩ = some (.slice (some ⟨cb, 0, none⟩) D.lines.length cap) := hwd ▸ hc
  have ONW := Lib.hid (still_only hwd)
  clear hwd hc
  have HDW := Lib.hid (HD.out.only0 ONW.out)
  have hnow := HDW.out.now hi
  have hnow2 : Bs wd (some ⟨cb, i * 193, none⟩) (D.lines[i]).now.length (D.lines[i]).now := by rw [HLEN.out]; exact hnow
  obtain ⟨cs, hb, hfit, hwr⟩ := IsDev.ready HDW.out hi
  have hft := hfit 128 (D.lines[i]).now HLEN.out (by omega)
  have HWR := Lib.hid (hwr 128 (D.lines[i]).now { D.lines[i] with way := (D.lines[i]).now } (by rw [HLEN.out]; omega) (cells_way _ HOK.out _ HLEN.out) ⟨HOK.out.1, HOK.out.2.1, HOK.out.1⟩)
  clear hfit hwr hnow
  repeat still_step
  refine still_load_arr rfl 91 (.tmp 20) rfl cb (i * 193) rfl (D.lines[i]).now hnow2 64 5 Try.underlying91 HS1.out ?_
  repeat still_step
  refine wpStill_nil ?_
  go_wp2_with ((with_reducible show wpList _ _ _ (Oper.mk none _ _ _ _ _ :: _) _ _); refine wpList_store_blk rfl 91 (.tmp 23) (.tmp 21) rfl cb (i * 193 + 128) ((D.lines[i]).now.map B).toArray rfl rfl 127 cs hb hft HS2.out (all_B _) ?_; intro w2 hb2 ho2 hs2; have hd2 := HWR.out w2 hb2 ho2; have hc2 : w2.cell? ⟨g, 0, none⟩ = some (.slice (some ⟨cb, 0, none⟩) D.lines.length cap) := (by rw [hd2.cell 0]; simp [headOf]); have hcn : w2.cell? ⟨g, 2, none⟩ = some (.int .i64 D.flushes) := hd2.cell 2; have hfn := hd2.frozen1 2; have hsc := hd2.sentCell (i := i) (by simpa using hi); have hfz := hd2.frozen2 (i * 193 + 192); have HD2 := Lib.hid hd2;clear hd2 hb)
  have hsw := IsDev.setSent HD2.out (i := i) (by simpa using hi) true
  have hl2 : ({ { D with lines := D.lines.set i { D.lines[i] with way := (D.lines[i]).now } } with lines := (D.lines.set i { D.lines[i] with way := (D.lines[i]).now }).set i { ((D.lines.set i { D.lines[i] with way := (D.lines[i]).now })[i]'(by simpa using hi)) with sent := true } } : Dev) = { D with lines := D.lines.set i (flushL (D.lines[i])) } := by
    simp [flushL]
  have hd3 := hsw.1
  rw [hl2] at hd3
  have hcnt := IsDev.count (D' := flushD D i (D.lines[i])) hd3 2 (wrap64 (D.flushes + 1)) rfl (by unfold flushD headOf; simp)
  go_ret
  exact ⟨rfl, hcnt.1, ((((ONW.out.mono (T := [g, cb]) (by simp)).trans ho2 (by simp)).trans hsw.2 (by simp))).trans hcnt.2 (by simp)⟩
theorem ref3_Flush_any (g cb cap : Nat) (D : Dev) (line : Int) (w : World) (hd : RefAt w g cb cap D) :
    Calls Try.prog 79 #[.pointer (some ⟨g, 0, none⟩), .int .i64 line] w fun e w' => e = .returned (.int .i64 (ansOf (noPlace D.lines.length line 0 0))) ∧ RefAt w' g cb cap (flush1 D line) ∧ Only [g, cb] w w' := by
  unfold ansOf flush1
  by_cases h : noPlace D.lines.length line 0 0
  · rw [if_pos h, if_pos h]
    unfold noPlace at h
    have HT := Lib.hid (ref3_Has_no g cb cap D line w hd (by omega))
    have HD := Lib.hid hd
    clear hd h
    go_enter Try.func79, Try.ntmps79
    go_wp2_with fail
    refine (HT.out).mono ?_
    rintro e w' ⟨rfl, rfl⟩
    go_wp2
    go_ret
    exact ⟨rfl, HD.out, Only.refl _ _⟩
  · rw [if_neg h, if_neg h]
    have h' := h
    unfold noPlace at h'
    obtain ⟨i, rfl⟩ := Int.eq_ofNat_of_zero_le (show 0 ≤ line by omega)
    rw [Int.toNat_natCast]
    exact ref3_Flush g cb cap D i _ (lineOf_get (by omega)) w hd
set_option maxHeartbeats 1000000 in
theorem ref3_Back (g cb cap : Nat) (D : Dev) (i : Nat) (x : Line) (hx : D.lines[i]? = some x) (w : World) (hd : RefAt w g cb cap D) :
    Calls Try.prog 81 #[.pointer (some ⟨g, 0, none⟩), .int .i64 i] w fun e w' => e = .returned (.int .i64 0) ∧ RefAt w' g cb cap (backD D i x) ∧ Only [g, cb] w w' := by
  obtain ⟨hi, rfl⟩ := List.getElem?_eq_some_iff.1 hx
  have hc : w.cell? ⟨g, 0, none⟩ = some (.slice (some ⟨cb, 0, none⟩) D.lines.length cap) := hd.cell 0
  have hf := hd.few
  have HT := Lib.hid (ref3_Has_yes g cb cap D i w hd (by omega))
  have HD := Lib.hid hd
  have hok := hd.ok.get hi
  have hlen := hok.1
  have hsz : (Try.prog.info? 91).map (·.size) = some (D.lines[i]).now.length := by rw [hlen]; exact arrSize3
  have hsz2 : (Try.prog.info? 91).map (·.size) = some ((D.lines[i]).now.map B).toArray.size := by rw [List.size_toArray, List.length_map, hlen]; exact arrSize3
  have hne := hd.ne
  have hne2 := hd.ne.symm
  have HOK := Lib.hid hok
  have HLEN := Lib.hid hlen
  have HS1 := Lib.hid hsz
  have HS2 := Lib.hid hsz2
  clear hok hlen hsz hsz2 hd hx
  go_enter Try.func81, Try.ntmps81
  go_wp2_with fail
  refine (HT.out).mono ?_
  rintro e w' ⟨rfl, rfl⟩
  go_wp2_with fail
  refine wp_region_still_tail 15 (by kernel_rfl) (by kernel_rfl) ?_
  simp only [List.take_succ_cons, List.take_zero, List.drop_succ_cons, List.drop_zero]
  generalize hwd : ({ w with drawn := w.drawn + 1 } : World) = wd
  have hcd : wd.cell? ⟨g, 0, none⟩ = some (.slice (some ⟨cb, 0, none⟩) D.lines.length cap) := hwd ▸ hc
  have ONW := Lib.hid (still_only hwd)
  clear hwd hc
  have HDW := Lib.hid (HD.out.only0 ONW.out)
  have hnow := HDW.out.now hi
  have hnow2 : Bs wd (some ⟨cb, i * 193, none⟩) (D.lines[i]).now.length (D.lines[i]).now := by rw [HLEN.out]; exact hnow
  obtain ⟨cs, hb, hfit, hwr⟩ := IsDev.ready HDW.out hi
  have hft := hfit 64 (D.lines[i]).now HLEN.out (by omega)
  have HWR := Lib.hid (hwr 64 (D.lines[i]).now { D.lines[i] with kept := (D.lines[i]).now } (by rw [HLEN.out]; omega) (cells_kept _ HOK.out _ HLEN.out) ⟨HOK.out.1, HOK.out.1, HOK.out.2.2⟩)
  clear hfit hwr hnow
  repeat still_step
  refine still_load_arr rfl 91 (.tmp 20) rfl cb (i * 193) rfl (D.lines[i]).now hnow2 64 5 Try.underlying91 HS1.out ?_
  repeat still_step
  refine wpStill_nil ?_
  go_wp2_with ((with_reducible show wpList _ _ _ (Oper.mk none _ _ _ _ _ :: _) _ _); refine wpList_store_blk rfl 91 (.tmp 23) (.tmp 21) rfl cb (i * 193 + 64) ((D.lines[i]).now.map B).toArray rfl rfl 127 cs hb hft HS2.out (all_B _) ?_; intro w2 hb2 ho2 hs2; have hd2 := HWR.out w2 hb2 ho2; have hc2 : w2.cell? ⟨g, 0, none⟩ = some (.slice (some ⟨cb, 0, none⟩) D.lines.length cap) := (by rw [hd2.cell 0]; simp [headOf]); have hcn : w2.cell? ⟨g, 4, none⟩ = some (.int .i64 D.backs) := hd2.cell 4; have hfn := hd2.frozen1 4; have hsc := hd2.sentCell (i := i) (by simpa using hi); have hfz := hd2.frozen2 (i * 193 + 192); have HD2 := Lib.hid hd2;clear hd2 hb)
  have hsw := IsDev.setSent HD2.out (i := i) (by simpa using hi) false
  have hl2 : ({ { D with lines := D.lines.set i { D.lines[i] with kept := (D.lines[i]).now } } with lines := (D.lines.set i { D.lines[i] with kept := (D.lines[i]).now }).set i { ((D.lines.set i { D.lines[i] with kept := (D.lines[i]).now })[i]'(by simpa using hi)) with sent := false } } : Dev) = { D with lines := D.lines.set i (backL (D.lines[i])) } := by
    simp [backL]
  have hd3 := hsw.1
  rw [hl2] at hd3
  have hcnt := IsDev.count (D' := backD D i (D.lines[i])) hd3 4 (wrap64 (D.backs + 1)) rfl (by unfold backD headOf; simp)
  go_ret
  exact ⟨rfl, hcnt.1, ((((ONW.out.mono (T := [g, cb]) (by simp)).trans ho2 (by simp)).trans hsw.2 (by simp))).trans hcnt.2 (by simp)⟩
theorem ref3_Back_any (g cb cap : Nat) (D : Dev) (line : Int) (w : World) (hd : RefAt w g cb cap D) :
    Calls Try.prog 81 #[.pointer (some ⟨g, 0, none⟩), .int .i64 line] w fun e w' => e = .returned (.int .i64 (ansOf (noPlace D.lines.length line 0 0))) ∧ RefAt w' g cb cap (back1 D line) ∧ Only [g, cb] w w' := by
  unfold ansOf back1
  by_cases h : noPlace D.lines.length line 0 0
  · rw [if_pos h, if_pos h]
    unfold noPlace at h
    have HT := Lib.hid (ref3_Has_no g cb cap D line w hd (by omega))
    have HD := Lib.hid hd
    clear hd h
    go_enter Try.func81, Try.ntmps81
    go_wp2_with fail
    refine (HT.out).mono ?_
    rintro e w' ⟨rfl, rfl⟩
    go_wp2
    go_ret
    exact ⟨rfl, HD.out, Only.refl _ _⟩
  · rw [if_neg h, if_neg h]
    have h' := h
    unfold noPlace at h'
    obtain ⟨i, rfl⟩ := Int.eq_ofNat_of_zero_le (show 0 ≤ line by omega)
    rw [Int.toNat_natCast]
    exact ref3_Back g cb cap D i _ (lineOf_get (by omega)) w hd
end Go.Proofs.Ytfafpggppbolkaa
