/- The contracts of the reference of chapter 3, third part: the fence; lines that are loose, lines on their way; a new device. -/
import Derived.Test.YtfafpggppbolkaaRef3B
namespace Go.Proofs.Ytfafpggppbolkaa
open Go.RowKit Go.Proofs.FuMem Go.Proofs.FuNvm Go.Proofs.FuCode
set_option maxRecDepth 100000
set_option maxHeartbeats 2000000 in
theorem ref3_Fence (g cb cap : Nat) (D : Dev) (w : World) (hd : RefAt w g cb cap D) :
    Calls Try.prog 80 #[.pointer (some ⟨g, 0, none⟩)] w fun e w' => e = .returned (.tuple #[]) ∧ RefAt w' g cb cap (fenceD D) ∧ Only [g, cb] w w' := by
  have hf := hd.few
  have hne := hd.ne
  have hne2 := hd.ne.symm
  have HD := Lib.hid hd
  clear hd
  obtain ⟨m, hm⟩ : ∃ m, m = D.lines.length := ⟨_, rfl⟩
  rw [← hm] at hf
  have HM := Lib.hid hm
  clear hm
  go_enter Try.func80, Try.ntmps80
  go_wp2
  go_loopw [2] (fun i wr => ∃ k : Nat, k ≤ m ∧ i = .int .i64 k ∧ RefAt wr g cb cap { D with lines := upTo (fun _ x => fenceL x) D.lines k } ∧ Only [cb] w wr) (fun i _ => m - (intOf i).toNat)
  case atStart => exact ⟨0, Nat.zero_le _, rfl, by rw [upTo_zero]; exact HD.out, Only.refl _ _⟩
  case round =>
    obtain ⟨k, hk, rfl, hd, on⟩ := hrel
    have hcr0 : wr.cell? ⟨g, 0, none⟩ = some (.slice (some ⟨cb, 0, none⟩) m cap) := by
      rw [hd.cell 0]
      simp [headOf, upTo_length, HM.out]
    by_cases hlt : k < m
    · have hkl : k < D.lines.length := by rw [← HM.out]; exact hlt
      have hkl2 : k < (upTo (fun _ x => fenceL x) D.lines k).length := by rw [upTo_length]; exact hkl
      obtain ⟨hq1, hq2⟩ := List.getElem?_eq_some_iff.1 (upTo_get (fun _ x => fenceL x) D.lines k hkl)
      have hsc := hd.sentCell (i := k) hkl2
      simp only [hq2] at hsc
      have hok := HD.out.ok.get hkl
      by_cases hsent : (D.lines[k]).sent = true
      · rw [hsent] at hsc
        have hlen := hok.2.2
        have hsz : (Try.prog.info? 91).map (·.size) = some (D.lines[k]).way.length := by rw [hlen]; exact arrSize3
        have hsz2 : (Try.prog.info? 91).map (·.size) = some ((D.lines[k]).way.map B).toArray.size := by rw [List.size_toArray, List.length_map, hlen]; exact arrSize3
        have hsucc := upTo_succ (fun _ x => fenceL x) D.lines k hkl
        have hfl : fenceL (D.lines[k]) = { D.lines[k] with kept := (D.lines[k]).way, sent := false } := by unfold fenceL; rw [if_pos hsent]
        have HOK := Lib.hid hok
        have HLEN := Lib.hid hlen
        have HS1 := Lib.hid hsz
        have HS2 := Lib.hid hsz2
        have HDR := Lib.hid hd
        have ON := Lib.hid on
        have HQ := Lib.hid hq2
        have HSU := Lib.hid hsucc
        have HFL := Lib.hid hfl
        clear hok hlen hsz hsz2 hd on hq2 hsucc hfl hsent
        go_wp2_with fail
        refine wp_region_still_tail 15 (by kernel_rfl) (by kernel_rfl) ?_
        simp only [List.take_succ_cons, List.take_zero, List.drop_succ_cons, List.drop_zero]
        generalize hwd : ({ wr with drawn := wr.drawn + 1 } : World) = wd
        have hcd : wd.cell? ⟨g, 0, none⟩ = some (.slice (some ⟨cb, 0, none⟩) m cap) := hwd ▸ hcr0
        have ONW := Lib.hid (still_only hwd)
        clear hwd hcr0 hsc
        have HDW := Lib.hid (HDR.out.only0 ONW.out)
        have hway := HDW.out.way (i := k) hkl2
        simp only [HQ.out] at hway
        have hway2 : Bs wd (some ⟨cb, k * 193 + 128, none⟩) (D.lines[k]).way.length (D.lines[k]).way := by rw [HLEN.out]; exact hway
        obtain ⟨cs, hb, hfit, hwr⟩ := IsDev.ready HDW.out (i := k) hkl2
        have hft := hfit 64 (D.lines[k]).way HLEN.out (by omega)
        have HWR := Lib.hid (hwr 64 (D.lines[k]).way { D.lines[k] with kept := (D.lines[k]).way } (by rw [HLEN.out]; omega) (by simp only [HQ.out]; exact cells_kept _ HOK.out _ HLEN.out) ⟨HOK.out.1, HOK.out.2.2, HOK.out.2.2⟩)
        clear hfit hwr hway
        repeat still_step
        refine still_load_arr rfl 91 (.tmp 31) rfl cb (k * 193 + 128) rfl (D.lines[k]).way hway2 64 5 Try.underlying91 HS1.out ?_
        repeat still_step
        refine wpStill_nil ?_
        go_wp2_with ((with_reducible show wpList _ _ _ (Oper.mk none _ _ _ _ _ :: _) _ _); refine wpList_store_blk rfl 91 (.tmp 34) (.tmp 32) rfl cb (k * 193 + 64) ((D.lines[k]).way.map B).toArray rfl rfl 127 cs hb hft HS2.out (all_B _) ?_; intro w2 hb2 ho2 hs2; have hd2 := HWR.out w2 hb2 ho2; have hc2 : w2.cell? ⟨g, 0, none⟩ = some (.slice (some ⟨cb, 0, none⟩) m cap) := (by rw [hd2.cell 0]; simp [headOf, upTo_length, HM.out]); have hsc := hd2.sentCell (i := k) (by simpa using hkl2); have hfz := hd2.frozen2 (k * 193 + 192); simp only [List.getElem_set_self] at hsc; have HD2 := Lib.hid hd2; have HO2 := Lib.hid ho2; clear hd2 hb ho2 hb2)
        have hsw := IsDev.setSent HD2.out (i := k) (by simpa using hkl2) false
        have he : ∀ D' : Dev, D' = { D with lines := upTo (fun _ x => fenceL x) D.lines (k + 1) } → RefAt (w2.setCell ⟨cb, k * 193 + 192, none⟩ (.bool false)) g cb cap D' → RefAt (w2.setCell ⟨cb, k * 193 + 192, none⟩ (.bool false)) g cb cap { D with lines := upTo (fun _ x => fenceL x) D.lines (k + 1) } := by
          rintro D' rfl h
          exact h
        have hd3 := he _ (by
          rw [← HSU.out, HFL.out]
          simp) hsw.1
        have HD3 := Lib.hid hd3
        have ON3 := Lib.hid ((ON.out.trans0 ONW.out).trans (HO2.out.trans hsw.2 (T := [cb]) (by simp)) (by simp))
        clear hd3 he hsw
        go_roundw
        case rel => exact ⟨k + 1, by omega, by go_num, HD3.out, ON3.out⟩
        case measure => simp [intOf]; omega
      · have hs0 : (D.lines[k]).sent = false := by simpa using hsent
        rw [hs0] at hsc
        have hkeep := upTo_keep (fun _ x => fenceL x) D.lines k hkl (by unfold fenceL; rw [if_neg hsent])
        rw [hkeep] at hd
        have HD2 := Lib.hid hd
        have ON := Lib.hid on
        clear hd on hkeep hsent hs0 hq2 hok
        go_wp2
        go_roundw
        case rel => exact ⟨k + 1, by omega, by go_num, HD2.out, ON.out⟩
        case measure => simp [intOf]; omega
    · obtain rfl : k = m := by omega
      have hall : upTo (fun _ x => fenceL x) D.lines k = D.lines.map fenceL := by rw [HM.out, upTo_all, mapIdx_map]
      rw [hall] at hd
      have hc3 : wr.cell? ⟨g, 3, none⟩ = some (.int .i64 D.fences) := hd.cell 3
      have hf3 := hd.frozen1 3
      have hcnt := IsDev.count (D' := fenceD D) hd 3 (wrap64 (D.fences + 1)) rfl (by unfold fenceD headOf; simp)
      have HCN := Lib.hid hcnt
      have ON := Lib.hid on
      clear hd on hall hcnt
      go_wp2
      go_end0
      exact ⟨rfl, HCN.out.1, (ON.out.mono (T := [g, cb]) (by simp)).trans HCN.out.2 (by simp)⟩
theorem neq_arr3 (l k : List UInt8) (hl : l.length = 64) (hk : k.length = 64) (w : World) : (binOp .neq 91 (arrV l) (arrV k)).run Try.prog w = .ok (.bool (l != k)) w := by
  obtain ⟨i0, hi, hz0, hz1, hz2⟩ := info_parts Try.byteInfo
  exact run_neq_arr Try.underlying91 Try.underlying5 i0 hi hz1 l k hl hk w
theorem arrGuard3 : Try.prog.eqGuardType Try.prog.depth 91 = false := by kernel_rfl
set_option maxHeartbeats 2000000 in
theorem ref3_Loose (g cb cap : Nat) (D : Dev) (w : World) (hd : RefAt w g cb cap D) :
    Calls Try.prog 88 #[.pointer (some ⟨g, 0, none⟩)] w fun e w' => ∃ v, e = .returned v ∧ MadeI w (those (fun x => x.now != x.kept) D.lines D.lines.length) v w' := by
  have hf := hd.few
  have HD := Lib.hid hd
  clear hd
  obtain ⟨m, hm⟩ : ∃ m, m = D.lines.length := ⟨_, rfl⟩
  rw [← hm] at hf ⊢
  have HM := Lib.hid hm
  clear hm
  obtain ⟨i0, hi, hz0, hz1, hz2⟩ := info_parts Try.intInfo
  have HI := Lib.hid hi
  have HZ0 := Lib.hid hz0
  have HZ1 := Lib.hid hz1
  have HZ2 := Lib.hid hz2
  clear hi hz0 hz1 hz2
  go_enter Try.func88, Try.ntmps88
  go_wp2
  go_loopw [3, 4] (fun v i wr => ∃ (k n : Nat), k ≤ m ∧ i = .int .i64 k ∧ n = (those (fun x => x.now != x.kept) D.lines k).length ∧ wr.ownsRow w.heap.size 3 1 v n ((those (fun x => x.now != x.kept) D.lines k).map (.int .i64)) ∧ Only [] w wr) (fun _ i _ => m - (intOf i).toNat)
  case atStart => exact ⟨0, 0, Nat.zero_le _, rfl, rfl, own_nil _ _ _ _, Only.refl _ _⟩
  case round =>
    obtain ⟨k, n, hk, rfl, hn, ho, on⟩ := hrel
    have hdr := HD.out.only0 on
    have hc0 : wr.cell? ⟨g, 0, none⟩ = some (.slice (some ⟨cb, 0, none⟩) m cap) := by
      rw [hdr.cell 0, HM.out]
      rfl
    by_cases hlt : k < m
    · have hkl : k < D.lines.length := by rw [← HM.out]; exact hlt
      have hok := hdr.ok.get hkl
      have HO := Lib.hid ho
      have ON := Lib.hid on
      have HN := Lib.hid hn
      have HDR := Lib.hid hdr
      have hnk := those_length (fun x => x.now != x.kept) D.lines k
      have hsu := those_succ (fun x => x.now != x.kept) D.lines k hkl
      have HSU := Lib.hid hsu
      have s1 : (Try.prog.info? 91).map (·.size) = some (D.lines[k]).now.length := by rw [hok.1]; exact arrSize3
      have s2 : (Try.prog.info? 91).map (·.size) = some (D.lines[k]).kept.length := by rw [hok.2.1]; exact arrSize3
      have hq := neq_arr3 (D.lines[k]).now (D.lines[k]).kept hok.1 hok.2.1
      have hg := fun (a b : Operand) (w : World) => eqGuard_arr (P := Try.prog) arrGuard3 .neq a b (D.lines[k]).now (D.lines[k]).kept w
      have S1 := Lib.hid s1
      have S2 := Lib.hid s2
      have b1 : Bs wr (some ⟨cb, k * 193, none⟩) (D.lines[k]).now.length (D.lines[k]).now := by rw [hok.1]; exact hdr.now hkl
      have b2 : Bs wr (some ⟨cb, k * 193 + 64, none⟩) (D.lines[k]).kept.length (D.lines[k]).kept := by rw [hok.2.1]; exact hdr.kept hkl
      have B1 := Lib.hid b1
      have B2 := Lib.hid b2
      clear ho on hn hdr hok hsu s1 s2 b1 b2
      go_wp2_with fail
      refine wp_region_later wr (by kernel_rfl) (by kernel_rfl) ?_
      have hlc := fun (p : Later wr) => Later.cell p hc0
      clear hc0
      repeat (quiet_step (fail))
      refine later_load rfl 91 (.tmp 20) rfl cb (k * 193) rfl (D.lines[k]).now B1.out 64 5 Try.underlying91 S1.out ?_
      repeat (quiet_step (fail))
      refine later_load rfl 91 (.tmp 28) rfl cb (k * 193 + 64) rfl (D.lines[k]).kept B2.out 64 5 Try.underlying91 S2.out ?_
      repeat (quiet_step (fail))
      repeat (quiet_step (fail))
      refine wpQuiet_nil ?_
      intro _ hw'
      obtain ⟨p, hw''⟩ := hw'
      subst hw''
      have opw := p.only
      generalize p.w = w1 at *
      have hown := own_only HO.out opw (by simp)
      have ON1 := Lib.hid (ON.out.trans0 opw)
      clear opw hlc hq hg S1 S2 B1 B2
      generalize ((D.lines[k]).now != (D.lines[k]).kept) = bb at *
      by_cases hp : bb = true
      · subst hp
        have hsu := HSU.out
        rw [if_pos rfl] at hsu
        have HS := Lib.hid hsu
        clear hsu
        obtain ⟨A', c', w', hr, ho2, hs2, on2⟩ := append_own (P := Try.prog) (w1.alloc (.cells #[.int .i64 (k : Int)] 3)) (ON1.out.alloc _) 34 34 3 i0 _ 8 Try.underlying34 HI.out HZ0.out HZ1.out HZ2.out rfl _ n _ (hown.alloc _) (some ⟨w1.heap.size, 0, none⟩) 1 1 [.int .i64 (k : Int)] (cell_new1 _ _ _) (ints_new1 _ _) (by have := HN.out; unfold maxLen; omega) (by have := HN.out; omega)
        rw [show (those (fun x => x.now != x.kept) D.lines k).map (Value.int .i64) ++ [.int .i64 (k : Int)] = (those (fun x => x.now != x.kept) D.lines (k + 1)).map (.int .i64) by rw [HS.out]; simp] at ho2
        have H2 := Lib.hid ho2
        have N2 := Lib.hid on2
        clear hown ho2 hs2 on2
        go_wp2_with (at_builtin; refine wpList_append_run _ rfl (.tmp 31) (.tmp 33) 34 rfl _ _ rfl rfl _ _ hr ?_)
        go_roundw
        case rel => exact ⟨k + 1, n + 1, by omega, by go_num, by rw [HS.out, List.length_append, HN.out]; rfl, H2.out, N2.out⟩
        case measure => simp [intOf]; omega
      · have hsu := HSU.out
        rw [if_neg hp] at hsu
        have hp0 : bb = false := by simpa using hp
        subst hp0
        have HS := Lib.hid hsu
        have H2 := Lib.hid hown
        clear hsu hown hp
        go_wp2
        go_roundw
        case rel => exact ⟨k + 1, n, by omega, by go_num, by rw [HS.out]; exact HN.out, by rw [HS.out]; exact H2.out, ON1.out⟩
        case measure => simp [intOf]; omega
    · obtain rfl : k = m := by omega
      obtain ⟨A', c', rfl, _, _⟩ := own_slice ho
      have H1 := Lib.hid ho
      have H2 := Lib.hid on
      clear ho on hdr
      go_wp2
      go_ret
      exact ⟨.slice A' n c', rfl, madeI_own hn.symm H1.out H2.out⟩
set_option maxHeartbeats 2000000 in
theorem ref3_Way (g cb cap : Nat) (D : Dev) (w : World) (hd : RefAt w g cb cap D) :
    Calls Try.prog 89 #[.pointer (some ⟨g, 0, none⟩)] w fun e w' => ∃ v, e = .returned v ∧ MadeI w (those (fun x => x.sent) D.lines D.lines.length) v w' := by
  have hf := hd.few
  have HD := Lib.hid hd
  clear hd
  obtain ⟨m, hm⟩ : ∃ m, m = D.lines.length := ⟨_, rfl⟩
  rw [← hm] at hf ⊢
  have HM := Lib.hid hm
  clear hm
  obtain ⟨i0, hi, hz0, hz1, hz2⟩ := info_parts Try.intInfo
  have HI := Lib.hid hi
  have HZ0 := Lib.hid hz0
  have HZ1 := Lib.hid hz1
  have HZ2 := Lib.hid hz2
  clear hi hz0 hz1 hz2
  go_enter Try.func89, Try.ntmps89
  go_wp2
  go_loopw [3, 4] (fun v i wr => ∃ (k n : Nat), k ≤ m ∧ i = .int .i64 k ∧ n = (those (fun x => x.sent) D.lines k).length ∧ wr.ownsRow w.heap.size 3 1 v n ((those (fun x => x.sent) D.lines k).map (.int .i64)) ∧ Only [] w wr) (fun _ i _ => m - (intOf i).toNat)
  case atStart => exact ⟨0, 0, Nat.zero_le _, rfl, rfl, own_nil _ _ _ _, Only.refl _ _⟩
  case round =>
    obtain ⟨k, n, hk, rfl, hn, ho, on⟩ := hrel
    have hdr := HD.out.only0 on
    have hc0 : wr.cell? ⟨g, 0, none⟩ = some (.slice (some ⟨cb, 0, none⟩) m cap) := by
      rw [hdr.cell 0, HM.out]
      rfl
    by_cases hlt : k < m
    · have hkl : k < D.lines.length := by rw [← HM.out]; exact hlt
      have hsc := hdr.sentCell (i := k) hkl
      have hown := ho
      have ON1 := Lib.hid on
      have HN := Lib.hid hn
      have hnk := those_length (fun x => x.sent) D.lines k
      have hsu := those_succ (fun x => x.sent) D.lines k hkl
      have HSU := Lib.hid hsu
      clear ho on hn hdr hsu
      by_cases hp : (D.lines[k]).sent = true
      · have hsu := HSU.out
        rw [if_pos hp] at hsu
        have HS := Lib.hid hsu
        clear hsu
        obtain ⟨A', c', w', hr, ho2, hs2, on2⟩ := append_own (P := Try.prog) (wr.alloc (.cells #[.int .i64 (k : Int)] 3)) (ON1.out.alloc _) 34 34 3 i0 _ 8 Try.underlying34 HI.out HZ0.out HZ1.out HZ2.out rfl _ n _ (hown.alloc _) (some ⟨wr.heap.size, 0, none⟩) 1 1 [.int .i64 (k : Int)] (cell_new1 _ _ _) (ints_new1 _ _) (by have := HN.out; unfold maxLen; omega) (by have := HN.out; omega)
        rw [show (those (fun x => x.sent) D.lines k).map (Value.int .i64) ++ [.int .i64 (k : Int)] = (those (fun x => x.sent) D.lines (k + 1)).map (.int .i64) by rw [HS.out]; simp] at ho2
        have H2 := Lib.hid ho2
        have N2 := Lib.hid on2
        clear hown ho2 hs2 on2
        go_wp2_with (at_builtin; refine wpList_append_run _ rfl (.tmp 22) (.tmp 24) 34 rfl _ _ rfl rfl _ _ hr ?_)
        go_roundw
        case rel => exact ⟨k + 1, n + 1, by omega, by go_num, by rw [HS.out, List.length_append, HN.out]; rfl, H2.out, N2.out⟩
        case measure => simp [intOf]; omega
      · have hsu := HSU.out
        rw [if_neg hp] at hsu
        have hp0 : (D.lines[k]).sent = false := by simpa using hp
        have HS := Lib.hid hsu
        have H2 := Lib.hid hown
        clear hsu hown hp
        go_wp2
        go_roundw
        case rel => exact ⟨k + 1, n, by omega, by go_num, by rw [HS.out]; exact HN.out, by rw [HS.out]; exact H2.out, ON1.out⟩
        case measure => simp [intOf]; omega
    · obtain rfl : k = m := by omega
      obtain ⟨A', c', rfl, _, _⟩ := own_slice ho
      have H1 := Lib.hid ho
      have H2 := Lib.hid on
      clear ho on hdr
      go_wp2
      go_ret
      exact ⟨.slice A' n c', rfl, madeI_own hn.symm H1.out H2.out⟩
theorem ref3_in (A : Option Addr) (n c : Nat) (l : List Int) (x : Int) (w : World) (h : Is w A n l) (hn : n ≤ 1000000) :
    Calls Try.prog 92 #[.slice A n c, .int .i64 x] w fun e w' => e = .returned (.bool (decide (x ∈ l))) ∧ w = w' := by
  have HL := Lib.hid h.len
  have HI := Lib.hid h
  clear h
  go_enter Try.func92, Try.ntmps92
  go_wp2
  go_loop [5] (fun i => ∃ k : Nat, k ≤ n ∧ i = .int .i64 k ∧ x ∉ l.take k) (fun i => n - (intOf i).toNat)
  case atStart => exact ⟨0, Nat.zero_le _, rfl, by simp⟩
  case round =>
    obtain ⟨k, hk, rfl, hno⟩ := hrel
    have HNO := Lib.hid hno
    clear hno
    by_cases hlt : k < n
    · obtain ⟨b, off, rfl, hcl⟩ := HI.out.at_ (by omega)
      have hkl : k < l.length := by rw [HL.out]; exact hlt
      have hc := hcl k hkl
      have hmem : l[k] ∈ l := List.getElem_mem hkl
      have HT := Lib.hid (List.take_succ_eq_append_getElem hkl)
      have HMM := Lib.hid hmem
      clear hcl hmem
      generalize l[k] = u at *
      by_cases hu : u = x
      · have q : (u == x) = true := by simpa using hu
        have hin : decide (x ∈ l) = true := by rw [decide_eq_true_eq, ← hu]; exact HMM.out
        have HIN := Lib.hid hin
        clear hu hin
        go_wp2
        go_ret
        exact ⟨ret_bool HIN.out.symm, rfl⟩
      · have q : (u == x) = false := by simpa using hu
        have HU := Lib.hid hu
        clear hu
        go_wp2
        go_round
        case rel =>
          refine ⟨k + 1, by omega, by go_num, ?_⟩
          rw [HT.out, List.mem_append, List.mem_singleton]
          rintro (h | h)
          · exact HNO.out h
          · exact HU.out h.symm
        case measure => simp [intOf]; omega
    · obtain rfl : k = n := by omega
      have hin : decide (x ∈ l) = false := by
        rw [decide_eq_false_iff_not]
        have := HNO.out
        rwa [List.take_of_length_le (by rw [HL.out]; exact Nat.le_refl _)] at this
      have HIN := Lib.hid hin
      clear hin
      go_wp2
      go_ret
      exact ⟨ret_bool HIN.out.symm, rfl⟩
end Go.Proofs.Ytfafpggppbolkaa
