/- The contracts of the reference of chapter 3, fourth part: the cut; a new device. -/
import Derived.Test.YtfafpggppbolkaaRef3C
namespace Go.Proofs.Ytfafpggppbolkaa
open Go.RowKit Go.Proofs.FuMem Go.Proofs.FuNvm Go.Proofs.FuCode
set_option maxRecDepth 100000
theorem cut_round (D : Dev) (hok : AllOk D.lines) (keep : List Int) (k : Nat) (hkl : k < D.lines.length) : ∃ (x : Line) (U : List Line), upTo (cutL keep) D.lines k = U ∧ U.length = D.lines.length ∧ U[k]? = some x ∧ x.Ok ∧ U.set k (cutL keep k x) = upTo (cutL keep) D.lines (k + 1) ∧ U.set k x = U ∧
    lostTo keep D.lines (k + 1) = if isLost keep k x = true then lostTo keep D.lines k ++ [(k : Int)] else lostTo keep D.lines k := by
  have h := upTo_get (cutL keep) D.lines k hkl
  have hq := (List.getElem?_eq_some_iff.1 h).2
  refine ⟨_, _, rfl, upTo_length _ _ _, h, hok.get hkl, upTo_succ (cutL keep) D.lines k hkl, ?_, lostTo_succ keep D.lines k hkl⟩
  conv => lhs; arg 3; rw [← hq]
  exact List.set_getElem_self _
set_option maxHeartbeats 8000000 in
theorem ref3_Cut (g cb cap : Nat) (D : Dev) (A : Option Addr) (an ac : Nat) (keep : List Int) (w : World) (hd : RefAt w g cb cap D) (hk : Is w A an keep) (han : an ≤ 1000000) (hsafe : 0 < an → ∀ b off s, A = some ⟨b, off, s⟩ → b ≠ g ∧ b ≠ cb) :
    Calls Try.prog 60 #[.pointer (some ⟨g, 0, none⟩), .slice A an ac] w fun e w' => ∃ A' c', e = .returned (.slice A' (lostTo keep D.lines D.lines.length).length c') ∧
      w'.ownsRow w.heap.size 3 1 (.slice A' (lostTo keep D.lines D.lines.length).length c') (lostTo keep D.lines D.lines.length).length ((lostTo keep D.lines D.lines.length).map (.int .i64)) ∧ RefAt w' g cb cap (cutD D keep) ∧ Only [g, cb] w w' := by
  have hf := hd.few
  have hne := hd.ne
  have hne2 := hd.ne.symm
  have hg1 := hd.lt1
  have hg2 := hd.lt2
  have HD := Lib.hid hd
  have HK := Lib.hid hk
  have HSF := Lib.hid hsafe
  clear hd hk hsafe
  obtain ⟨m, hm⟩ : ∃ m, m = D.lines.length := ⟨_, rfl⟩
  rw [← hm] at hf ⊢
  have HM := Lib.hid hm
  clear hm
  obtain ⟨i0, hi, hz0, hz1, hz2⟩ := info_parts Try.intInfo
  have HI := Lib.hid hi
  have HZ0 := Lib.hid hz0
  have HZ1 := Lib.hid hz1
  have HZ2 := Lib.hid hz2
  clear hi hz0 hz1 hz2
  go_enter Try.func60, Try.ntmps60
  go_wp2
  go_loopw [5, 6, 7] (fun v i _ wr => ∃ (k n : Nat), k ≤ m ∧ i = .int .i64 k ∧ n = (lostTo keep D.lines k).length ∧ wr.ownsRow w.heap.size 3 1 v n ((lostTo keep D.lines k).map (.int .i64)) ∧ RefAt wr g cb cap { D with lines := upTo (cutL keep) D.lines k } ∧ Only [g, cb] w wr) (fun _ i _ _ => m - (intOf i).toNat)
  case atStart => exact ⟨0, 0, Nat.zero_le _, rfl, rfl, own_nil _ _ _ _, by rw [upTo_zero]; exact HD.out, Only.refl _ _⟩
  case round =>
    obtain ⟨k, n, hk, rfl, hn, ho, hd, on⟩ := hrel
    have hnk := lostTo_length keep D.lines k
    have hc0 : wr.cell? ⟨g, 0, none⟩ = some (.slice (some ⟨cb, 0, none⟩) m cap) := by
      rw [hd.cell 0]
      simp [headOf, upTo_length, HM.out]
    by_cases hlt : k < m
    · have hkl : k < D.lines.length := by rw [← HM.out]; exact hlt
      obtain ⟨x, U, hU, hUl, hUx, hok, hup, hset, hsu⟩ := cut_round D HD.out.ok keep k hkl
      rw [hU] at hd
      have hkl2 : k < U.length := by rw [hUl]; exact hkl
      have b1 := hd.now (i := k) hkl2
      have b2 := hd.kept (i := k) hkl2
      simp only [(List.getElem?_eq_some_iff.1 hUx).2] at b1 b2
      have hcl : cutL keep k x = (if (x.now != x.kept) = true ∧ (k : Int) ∈ keep then { x with kept := x.now, sent := false } else { x with now := x.kept, sent := false }) := rfl
      have hil : isLost keep k x = ((x.now != x.kept) && !decide ((k : Int) ∈ keep)) := rfl
      have hdx : RefAt wr g cb cap { D with lines := U.set k x } := by rw [hset]; exact hd
      have s1 : (Try.prog.info? 91).map (·.size) = some x.now.length := by rw [hok.1]; exact arrSize3
      have s2 : (Try.prog.info? 91).map (·.size) = some x.kept.length := by rw [hok.2.1]; exact arrSize3
      have hq := neq_arr3 x.now x.kept hok.1 hok.2.1
      have hg := fun (a b : Operand) (w : World) => eqGuard_arr (P := Try.prog) arrGuard3 .neq a b x.now x.kept w
      have c1 : Bs wr (some ⟨cb, k * 193, none⟩) x.now.length x.now := by rw [hok.1]; exact b1
      have c2 : Bs wr (some ⟨cb, k * 193 + 64, none⟩) x.kept.length x.kept := by rw [hok.2.1]; exact b2
      have hkeepw := is_only_pos HK.out on (by intro hp b off s e hb; have := HSF.out hp b off s e; simp at hb; omega)
      have HKW := Lib.hid hkeepw
      have HOK := Lib.hid hok
      have HO := Lib.hid ho
      have ON := Lib.hid on
      have HN := Lib.hid hn
      have HDX := Lib.hid hdx
      have HSU := Lib.hid hsu
      have HUP := Lib.hid hup
      have HCL := Lib.hid hcl
      have HIL := Lib.hid hil
      have S1 := Lib.hid s1
      have S2 := Lib.hid s2
      have C1 := Lib.hid c1
      have C2 := Lib.hid c2
      have HUL := Lib.hid (show U.length = m by rw [hUl, HM.out])
      clear hok ho on hn hd hdx hsu hup hcl hil s1 s2 c1 c2 b1 b2 hkeepw hset hU hUl hUx
      go_wp2_with fail
      refine wp_region_later wr (by kernel_rfl) (by kernel_rfl) ?_
      have hlc := fun (p : Later wr) => Later.cell p hc0
      clear hc0
      repeat (quiet_step (fail))
      refine later_load rfl 91 (.tmp 23) rfl cb (k * 193) rfl x.now C1.out 64 5 Try.underlying91 S1.out ?_
      repeat (quiet_step (fail))
      refine later_load rfl 91 (.tmp 31) rfl cb (k * 193 + 64) rfl x.kept C2.out 64 5 Try.underlying91 S2.out ?_
      repeat (quiet_step (fail))
      repeat (quiet_step (fail))
      refine wpQuiet_nil ?_
      intro _ hw'
      obtain ⟨p, hw''⟩ := hw'
      subst hw''
      have opw := p.only
      have hc0 := hlc p
      generalize p.w = w1 at *
      have HDX := Lib.hid (HDX.out.only0 opw)
      have HO := Lib.hid (own_only HO.out opw (by simp))
      have ON := Lib.hid (ON.out.trans0 opw)
      have HKW := Lib.hid (Is.only0 HKW.out opw)
      have HIN := Lib.hid (fun w (e : w1 = w) => ref3_in A an ac keep (k : Int) w (e ▸ HKW.out) han)
      have hklU : ∀ y : Line, k < (U.set k y).length := fun y => by rw [List.length_set]; exact hkl2
      have HKU := Lib.hid hklU
      clear opw hlc hq hg S1 S2 C1 C2 hklU hkl2
      generalize (x.now != x.kept) = bb at *
      by_cases hbb : bb = true
      · subst hbb
        by_cases hin : (k : Int) ∈ keep
        · have hy := HCL.out
          rw [if_pos ⟨rfl, hin⟩] at hy
          have hl := HIL.out
          rw [decide_eq_true hin] at hl
          have hii := HIN.out
          rw [decide_eq_true hin] at hii
          have HII := Lib.hid hii
          have HLK := Lib.hid hl
          clear hii hl hin
          go_wp2_with (refine (HII.out _ rfl).mono ?_; rintro e w' ⟨rfl, rfl⟩)
          refine wp_region_still_tail 15 (by kernel_rfl) (by kernel_rfl) ?_
          simp only [List.take_succ_cons, List.take_zero, List.drop_succ_cons, List.drop_zero]
          generalize hwd : ({ w1 with drawn := w1.drawn + 1 } : World) = wd7
          have hcd7 : wd7.cell? ⟨g, 0, none⟩ = some (.slice (some ⟨cb, 0, none⟩) m cap) := hwd ▸ hc0
          have ONW7 := Lib.hid (still_only hwd)
          clear hwd hc0
          have HDW7 := Lib.hid (HDX.out.only0 ONW7.out)
          have hsr7 := HDW7.out.now (i := k) (HKU.out _)
          simp only [List.getElem_set_self] at hsr7
          have hle7 : (x.now).length = 64 := HOK.out.1
          have hsr27 : Bs wd7 (some ⟨cb, k * 193, none⟩) (x.now).length (x.now) := by rw [hle7]; exact hsr7
          obtain ⟨cs7, hbk7, hfit7, hwr7⟩ := IsDev.ready HDW7.out (i := k) (HKU.out _)
          have hft7 := hfit7 64 (x.now) hle7 (by omega)
          have HWR7 := Lib.hid (hwr7 64 (x.now) { x with kept := x.now } (by rw [hle7]; omega) (by simp only [List.getElem_set_self]; exact cells_kept _ HOK.out _ hle7) ⟨HOK.out.1, HOK.out.1, HOK.out.2.2⟩)
          have SA7 := Lib.hid (show (Try.prog.info? 91).map (·.size) = some (x.now).length by rw [hle7]; exact arrSize3)
          have SB7 := Lib.hid (show (Try.prog.info? 91).map (·.size) = some ((x.now).map B).toArray.size by rw [List.size_toArray, List.length_map, hle7]; exact arrSize3)
          clear hfit7 hwr7 hsr7 hle7
          repeat still_step
          refine still_load_arr rfl 91 (.tmp 51) rfl cb (k * 193) rfl (x.now) hsr27 64 5 Try.underlying91 SA7.out ?_
          repeat still_step
          refine wpStill_nil ?_
          refine wpList_store_blk rfl 91 (.tmp 54) (.tmp 52) rfl cb (k * 193 + 64) (x.now.map B).toArray rfl rfl 127 cs7 hbk7 hft7 SB7.out (all_B _) ?_
          intro w2 hb2 ho2 hs2
          have hd2 := HWR7.out w2 hb2 ho2
          simp only [List.set_set] at hd2
          have hc0 : w2.cell? ⟨g, 0, none⟩ = some (.slice (some ⟨cb, 0, none⟩) m cap) := by
            rw [hd2.cell 0]
            simp [headOf, HUL.out]
          have HDX := Lib.hid hd2
          have HO := Lib.hid (own_only HO.out ((ONW7.out.mono (T := [cb]) (by simp)).trans ho2 (by simp)) (by intro b hb; have := World.ownsRow.lt HO.out b hb; simp; omega))
          have ON := Lib.hid ((ON.out.trans0 ONW7.out).trans ho2 (by simp))
          clear hd2 hb2 ho2 hbk7 hcd7
          have HCY := Lib.hid (show ({ { x with kept := x.now } with now := ({ x with kept := x.now } : Line).kept, sent := false } : Line) = cutL keep k x by rw [hy])
          clear hy
          have HYO := Lib.hid (show ({ x with kept := x.now } : Line).Ok from ⟨HOK.out.1, HOK.out.1, HOK.out.2.2⟩)
          generalize ({ x with kept := x.now } : Line) = y at *
          go_wp2_with fail
          refine wp_region_still_tail 15 (by kernel_rfl) (by kernel_rfl) ?_
          simp only [List.take_succ_cons, List.take_zero, List.drop_succ_cons, List.drop_zero]
          generalize hwd : ({ w2 with drawn := w2.drawn + 1 } : World) = wd8
          have hcd8 : wd8.cell? ⟨g, 0, none⟩ = some (.slice (some ⟨cb, 0, none⟩) m cap) := hwd ▸ hc0
          have ONW8 := Lib.hid (still_only hwd)
          clear hwd hc0
          have HDW8 := Lib.hid (HDX.out.only0 ONW8.out)
          have hsr8 := HDW8.out.kept (i := k) (HKU.out _)
          simp only [List.getElem_set_self] at hsr8
          have hle8 : (y.kept).length = 64 := HYO.out.2.1
          have hsr28 : Bs wd8 (some ⟨cb, k * 193 + 64, none⟩) (y.kept).length (y.kept) := by rw [hle8]; exact hsr8
          obtain ⟨cs8, hbk8, hfit8, hwr8⟩ := IsDev.ready HDW8.out (i := k) (HKU.out _)
          have hft8 := hfit8 0 (y.kept) hle8 (by omega)
          have HWR8 := Lib.hid (hwr8 0 (y.kept) { y with now := y.kept } (by rw [hle8]; omega) (by simp only [List.getElem_set_self]; exact cells_now _ HYO.out _ hle8) ⟨HYO.out.2.1, HYO.out.2.1, HYO.out.2.2⟩)
          have SA8 := Lib.hid (show (Try.prog.info? 91).map (·.size) = some (y.kept).length by rw [hle8]; exact arrSize3)
          have SB8 := Lib.hid (show (Try.prog.info? 91).map (·.size) = some ((y.kept).map B).toArray.size by rw [List.size_toArray, List.length_map, hle8]; exact arrSize3)
          clear hfit8 hwr8 hsr8 hle8
          repeat still_step
          refine still_load_arr rfl 91 (.tmp 71) rfl cb (k * 193 + 64) rfl (y.kept) hsr28 64 5 Try.underlying91 SA8.out ?_
          repeat still_step
          refine wpStill_nil ?_
          refine wpList_store_blk rfl 91 (.tmp 74) (.tmp 72) rfl cb (k * 193 + 0) (y.kept.map B).toArray rfl rfl 127 cs8 hbk8 hft8 SB8.out (all_B _) ?_
          intro w5 hb5 ho5 hs5
          have hd5 := HWR8.out w5 hb5 ho5
          simp only [List.set_set] at hd5
          have hc5 : w5.cell? ⟨g, 0, none⟩ = some (.slice (some ⟨cb, 0, none⟩) m cap) := by
            rw [hd5.cell 0]
            simp [headOf, HUL.out]
          have hsc5 := hd5.sentCell (i := k) (HKU.out _)
          simp only [List.getElem_set_self] at hsc5
          have hfz5 := hd5.frozen2 (k * 193 + 192)
          have hsw := IsDev.setSent hd5 (i := k) (HKU.out _) false
          simp only [List.getElem_set_self, List.set_set] at hsw
          have hsw1 := hsw.1
          rw [HCY.out, HUP.out] at hsw1
          have HD9 := Lib.hid hsw1
          have HO9 := Lib.hid (own_only HO.out ((((ONW8.out.mono (T := [cb]) (by simp)).trans ho5 (by simp)).trans hsw.2 (by simp))) (by intro b hb; have := World.ownsRow.lt HO.out b hb; simp; omega))
          have ON9 := Lib.hid (((ON.out.trans0 ONW8.out).trans ho5 (by simp)).trans hsw.2 (by simp))
          clear hd5 hb5 ho5 hbk8 hcd8 hsw hsw1
          go_wp2
          go_roundw
          case rel => exact ⟨k + 1, n, by omega, by go_num, by rw [HSU.out, HLK.out]; exact HN.out, by rw [HSU.out, HLK.out]; exact HO9.out, HD9.out, ON9.out⟩
          case measure => simp [intOf]; omega
        · have hy := HCL.out
          rw [if_neg (fun h => hin h.2)] at hy
          have hl := HIL.out
          rw [decide_eq_false hin] at hl
          have hii := HIN.out
          rw [decide_eq_false hin] at hii
          have HII := Lib.hid hii
          have HLK := Lib.hid hl
          have HCY := Lib.hid (show ({ x with now := x.kept, sent := false } : Line) = cutL keep k x by rw [hy])
          have HYO := HOK
          clear hii hl hin hy
          have hln := (HO.out).1
          obtain ⟨A', c', w', hr, ho2, on2, be2⟩ := append_ownB (P := Try.prog) (w1.alloc (.cells #[.int .i64 (k : Int)] 3)) (ON.out.alloc _) 34 34 3 i0 _ 8 Try.underlying34 HI.out HZ0.out HZ1.out HZ2.out rfl _ n _ (World.ownsRow.alloc HO.out _) (some ⟨w1.heap.size, 0, none⟩) 1 1 [.int .i64 (k : Int)] (cell_new1 _ _ _) (ints_new1 _ _) (by have := HN.out; unfold maxLen; omega) (by have := HN.out; omega)
          have al : Only [] w1 (w1.alloc (.cells #[.int .i64 (k : Int)] 3)) := (Only.refl _ _).alloc _
          have HDX := Lib.hid (IsDev.below (HDX.out.only0 al) be2 hg1 hg2)
          have HO := Lib.hid ho2
          have ON := Lib.hid on2
          have hc0 : w'.cell? ⟨g, 0, none⟩ = some (.slice (some ⟨cb, 0, none⟩) m cap) := by
            rw [HDX.out.cell 0]
            simp [headOf, HUL.out]
          clear ho2 on2 be2 al hln
          go_wp2_with (first | (refine (HII.out _ rfl).mono ?_; rintro e w' ⟨rfl, rfl⟩) | (at_builtin; refine wpList_append_run _ rfl (.tmp 56) (.tmp 58) 34 rfl _ _ rfl rfl _ _ hr ?_))
          refine wp_region_still_tail 15 (by kernel_rfl) (by kernel_rfl) ?_
          simp only [List.take_succ_cons, List.take_zero, List.drop_succ_cons, List.drop_zero]
          generalize hwd : ({ w' with drawn := w'.drawn + 1 } : World) = wd8
          have hcd8 : wd8.cell? ⟨g, 0, none⟩ = some (.slice (some ⟨cb, 0, none⟩) m cap) := hwd ▸ hc0
          have ONW8 := Lib.hid (still_only hwd)
          clear hwd hc0
          have HDW8 := Lib.hid (HDX.out.only0 ONW8.out)
          have hsr8 := HDW8.out.kept (i := k) (HKU.out _)
          simp only [List.getElem_set_self] at hsr8
          have hle8 : (x.kept).length = 64 := HYO.out.2.1
          have hsr28 : Bs wd8 (some ⟨cb, k * 193 + 64, none⟩) (x.kept).length (x.kept) := by rw [hle8]; exact hsr8
          obtain ⟨cs8, hbk8, hfit8, hwr8⟩ := IsDev.ready HDW8.out (i := k) (HKU.out _)
          have hft8 := hfit8 0 (x.kept) hle8 (by omega)
          have HWR8 := Lib.hid (hwr8 0 (x.kept) { x with now := x.kept } (by rw [hle8]; omega) (by simp only [List.getElem_set_self]; exact cells_now _ HYO.out _ hle8) ⟨HYO.out.2.1, HYO.out.2.1, HYO.out.2.2⟩)
          have SA8 := Lib.hid (show (Try.prog.info? 91).map (·.size) = some (x.kept).length by rw [hle8]; exact arrSize3)
          have SB8 := Lib.hid (show (Try.prog.info? 91).map (·.size) = some ((x.kept).map B).toArray.size by rw [List.size_toArray, List.length_map, hle8]; exact arrSize3)
          clear hfit8 hwr8 hsr8 hle8
          repeat still_step
          refine still_load_arr rfl 91 (.tmp 71) rfl cb (k * 193 + 64) rfl (x.kept) hsr28 64 5 Try.underlying91 SA8.out ?_
          repeat still_step
          refine wpStill_nil ?_
          refine wpList_store_blk rfl 91 (.tmp 74) (.tmp 72) rfl cb (k * 193 + 0) (x.kept.map B).toArray rfl rfl 127 cs8 hbk8 hft8 SB8.out (all_B _) ?_
          intro w5 hb5 ho5 hs5
          have hd5 := HWR8.out w5 hb5 ho5
          simp only [List.set_set] at hd5
          have hc5 : w5.cell? ⟨g, 0, none⟩ = some (.slice (some ⟨cb, 0, none⟩) m cap) := by
            rw [hd5.cell 0]
            simp [headOf, HUL.out]
          have hsc5 := hd5.sentCell (i := k) (HKU.out _)
          simp only [List.getElem_set_self] at hsc5
          have hfz5 := hd5.frozen2 (k * 193 + 192)
          have hsw := IsDev.setSent hd5 (i := k) (HKU.out _) false
          simp only [List.getElem_set_self, List.set_set] at hsw
          have hsw1 := hsw.1
          rw [HCY.out, HUP.out] at hsw1
          have HD9 := Lib.hid hsw1
          have HO9 := Lib.hid (own_only HO.out ((((ONW8.out.mono (T := [cb]) (by simp)).trans ho5 (by simp)).trans hsw.2 (by simp))) (by intro b hb; have := World.ownsRow.lt HO.out b hb; simp; omega))
          have ON9 := Lib.hid (((ON.out.trans0 ONW8.out).trans ho5 (by simp)).trans hsw.2 (by simp))
          clear hd5 hb5 ho5 hbk8 hcd8 hsw hsw1
          go_wp2
          go_roundw
          case rel => exact ⟨k + 1, n + 1, by omega, by go_num, by rw [HSU.out, HLK.out]; rw [if_pos (by rfl), List.length_append, HN.out]; rfl, by rw [HSU.out, HLK.out]; simpa using HO9.out, HD9.out, ON9.out⟩
          case measure => simp [intOf]; omega
      · have hbf : bb = false := by simpa using hbb
        subst hbf
        have hy := HCL.out
        rw [if_neg (fun h => by cases h.1)] at hy
        have HLK := HIL
        have HCY := Lib.hid (show ({ x with now := x.kept, sent := false } : Line) = cutL keep k x by rw [hy])
        have HYO := HOK
        clear hy hbb
        go_wp2_with fail
        refine wp_region_still_tail 15 (by kernel_rfl) (by kernel_rfl) ?_
        simp only [List.take_succ_cons, List.take_zero, List.drop_succ_cons, List.drop_zero]
        generalize hwd : ({ w1 with drawn := w1.drawn + 1 } : World) = wd8
        have hcd8 : wd8.cell? ⟨g, 0, none⟩ = some (.slice (some ⟨cb, 0, none⟩) m cap) := hwd ▸ hc0
        have ONW8 := Lib.hid (still_only hwd)
        clear hwd hc0
        have HDW8 := Lib.hid (HDX.out.only0 ONW8.out)
        have hsr8 := HDW8.out.kept (i := k) (HKU.out _)
        simp only [List.getElem_set_self] at hsr8
        have hle8 : (x.kept).length = 64 := HYO.out.2.1
        have hsr28 : Bs wd8 (some ⟨cb, k * 193 + 64, none⟩) (x.kept).length (x.kept) := by rw [hle8]; exact hsr8
        obtain ⟨cs8, hbk8, hfit8, hwr8⟩ := IsDev.ready HDW8.out (i := k) (HKU.out _)
        have hft8 := hfit8 0 (x.kept) hle8 (by omega)
        have HWR8 := Lib.hid (hwr8 0 (x.kept) { x with now := x.kept } (by rw [hle8]; omega) (by simp only [List.getElem_set_self]; exact cells_now _ HYO.out _ hle8) ⟨HYO.out.2.1, HYO.out.2.1, HYO.out.2.2⟩)
        have SA8 := Lib.hid (show (Try.prog.info? 91).map (·.size) = some (x.kept).length by rw [hle8]; exact arrSize3)
        have SB8 := Lib.hid (show (Try.prog.info? 91).map (·.size) = some ((x.kept).map B).toArray.size by rw [List.size_toArray, List.length_map, hle8]; exact arrSize3)
        clear hfit8 hwr8 hsr8 hle8
        repeat still_step
        refine still_load_arr rfl 91 (.tmp 71) rfl cb (k * 193 + 64) rfl (x.kept) hsr28 64 5 Try.underlying91 SA8.out ?_
        repeat still_step
        refine wpStill_nil ?_
        refine wpList_store_blk rfl 91 (.tmp 74) (.tmp 72) rfl cb (k * 193 + 0) (x.kept.map B).toArray rfl rfl 127 cs8 hbk8 hft8 SB8.out (all_B _) ?_
        intro w5 hb5 ho5 hs5
        have hd5 := HWR8.out w5 hb5 ho5
        simp only [List.set_set] at hd5
        have hc5 : w5.cell? ⟨g, 0, none⟩ = some (.slice (some ⟨cb, 0, none⟩) m cap) := by
          rw [hd5.cell 0]
          simp [headOf, HUL.out]
        have hsc5 := hd5.sentCell (i := k) (HKU.out _)
        simp only [List.getElem_set_self] at hsc5
        have hfz5 := hd5.frozen2 (k * 193 + 192)
        have hsw := IsDev.setSent hd5 (i := k) (HKU.out _) false
        simp only [List.getElem_set_self, List.set_set] at hsw
        have hsw1 := hsw.1
        rw [HCY.out, HUP.out] at hsw1
        have HD9 := Lib.hid hsw1
        have HO9 := Lib.hid (own_only HO.out ((((ONW8.out.mono (T := [cb]) (by simp)).trans ho5 (by simp)).trans hsw.2 (by simp))) (by intro b hb; have := World.ownsRow.lt HO.out b hb; simp; omega))
        have ON9 := Lib.hid (((ON.out.trans0 ONW8.out).trans ho5 (by simp)).trans hsw.2 (by simp))
        clear hd5 hb5 ho5 hbk8 hcd8 hsw hsw1
        go_wp2
        go_roundw
        case rel => exact ⟨k + 1, n, by omega, by go_num, by rw [HSU.out, HLK.out]; exact HN.out, by rw [HSU.out, HLK.out]; exact HO9.out, HD9.out, ON9.out⟩
        case measure => simp [intOf]; omega
    · obtain rfl : k = m := by omega
      have hall : upTo (cutL keep) D.lines k = D.lines.mapIdx (cutL keep) := by rw [HM.out, upTo_all]
      rw [hall] at hd
      obtain ⟨A', c', rfl, _, _⟩ := own_slice ho
      subst hn
      have hc5 : wr.cell? ⟨g, 5, none⟩ = some (.int .i64 D.cuts) := hd.cell 5
      have hf5 := hd.frozen1 5
      have hcnt := IsDev.count (D' := cutD D keep) hd 5 (wrap64 (D.cuts + 1)) rfl (by unfold cutD headOf; simp)
      have HR5 := Lib.hid (own_only ho hcnt.2 (by intro b hb2; have := World.ownsRow.lt ho b hb2; simp; omega))
      have HCN := Lib.hid hcnt
      have ON := Lib.hid on
      clear hd on hall hcnt ho
      go_wp2
      go_ret
      exact ⟨A', c', rfl, HR5.out, HCN.out.1, ON.out.trans HCN.out.2 (by simp)⟩
theorem lineZero3 : ∃ i z, Try.prog.info? 127 = some i ∧ i.zero = some z ∧ i.size = 193 ∧ z.cells = (cellsOf noLine).toArray ∧ i.bytes = 193 := ⟨_, _, rfl, rfl, rfl, rfl, rfl⟩
set_option maxHeartbeats 1000000 in
theorem ref3_New (n : Nat) (w : World) (h1 : 1 ≤ n) (h2 : n ≤ 258) :
    Calls Try.prog 50 #[.int .i64 n] w fun e w' => ∃ g cb, e = .returned (.tuple #[.pointer (some ⟨g, 0, none⟩), .int .i64 0]) ∧ RefAt w' g cb n (newDev n) ∧ Only [] w w' ∧ w.heap.size ≤ g ∧ w.heap.size ≤ cb := by
  obtain ⟨ci, cz, hi, hz, hs, hc, hby⟩ := lineZero3
  obtain ⟨w1, hr, hb, ho, hg⟩ := make_lines (P := Try.prog) (w := w) 117 127 ci cz Try.underlying117 hi hz hs hc n (by rw [hby]; omega) (by omega)
  have HB := Lib.hid hb
  have HON := Lib.hid ho
  have HG := Lib.hid hg
  clear hb ho hg hi hz hc
  have hh1 : decide ((n : Int) < 1) = false := by go_num
  have hh2 : decide ((258 : Int) < (n : Int)) = false := by go_num
  go_enter Try.func50, Try.ntmps50
  go_wp2
  go_ret2
  have hal : Only [] w1 (w1.alloc (.cells (headOf w.heap.size n (newDev n)) 119)) := (Only.refl _ _).alloc _
  have hln : (newDev n).lines.length = n := List.length_replicate
  have hhd := Blk.new w1 119 (headOf w.heap.size n (newDev n))
  have hg2 := HG.out
  have he : headOf w.heap.size n (newDev n) = #[.slice (some ⟨w.heap.size, 0, none⟩) n n, .int .i64 0, .int .i64 0, .int .i64 0, .int .i64 0, .int .i64 0] := by
    unfold headOf
    rw [hln]
    rfl
  rw [he] at hal
  refine ⟨w1.heap.size, w.heap.size, rfl, ⟨?_, ⟨_, HB.out.only hal (by simp), ?_⟩, by omega, allOk_new n, by omega, by omega⟩, HON.out.trans0 hal, by omega, Nat.le_refl _⟩
  · rw [he] at hhd ⊢
    exact hhd
  · rw [hln]
    unfold newDev
    have := flat_length (allOk_new n)
    rw [List.length_replicate] at this
    exact List.take_of_length_le (by simp [this])
theorem ref3_New_no (n : Int) (w : World) (h : n < 1 ∨ 258 < n) :
    Calls Try.prog 50 #[.int .i64 n] w fun e w' => e = .returned (.tuple #[.pointer none, .int .i64 2]) ∧ w' = w := by
  by_cases h1 : n < 1
  · have hh1 : decide (n < 1) = true := by simpa using h1
    clear h
    go_enter Try.func50, Try.ntmps50
    go_wp2
    go_ret2
    exact ⟨rfl, rfl⟩
  · have h2 : 258 < n := by omega
    have hh1 : decide (n < 1) = false := by simpa using h1
    have hh2 : decide (258 < n) = true := by simpa using h2
    clear h
    go_enter Try.func50, Try.ntmps50
    go_wp2
    go_ret2
    exact ⟨rfl, rfl⟩
end Go.Proofs.Ytfafpggppbolkaa
