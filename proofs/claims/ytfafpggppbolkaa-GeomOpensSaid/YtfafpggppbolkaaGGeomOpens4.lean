/- The contracts of the reference of chapter 3, fourth part: the cut; a new device. -/
import Derived.Laws.BitsLemmas
import Derived.Deep.RegionHeld3
import Derived.Test.YtfafpggppbolkaaGGeomOpens1
import Derived.Test.YtfafpggppbolkaaGGeomOpens2
import Derived.Test.YtfafpggppbolkaaGGeomOpens3
namespace Go.Proofs.Ytfafpggppbolkaa
open Go.RowKit Go.Proofs.FuMem Go.Proofs.FuNvm Go.Proofs.FuCode
set_option maxRecDepth 100000
theorem cut_round (D : Dev) (hok : AllOk D.lines) (keep : List Int) (k : Nat) (hkl : k < D.lines.length) : ∃ (x : Line) (U : List Line), upTo (cutL keep) D.lines k = U ∧ U.length = D.lines.length ∧ U[k]? = some x ∧ x.Ok ∧ U.set k (cutL keep k x) = upTo (cutL keep) D.lines (k + 1) ∧ U.set k x = U ∧
    lostTo keep D.lines (k + 1) = if isLost keep k x = true then lostTo keep D.lines k ++ [(k : Int)] else lostTo keep D.lines k := by
  have h := upTo_get (cutL keep) D.lines k hkl
  have hq := (List.getElem?_eq_some_iff.1 h).2
  refine ⟨_, _, rfl, upTo_length _ _ _, h, hok.get hkl, upTo_succ (cutL keep) D.lines k hkl, ?_, lostTo_succ keep D.lines k hkl⟩
  conv => lhs; arg 3; rw [← hq]
  exact List.set_getElem_self _
set_option maxHeartbeats 8000000 in
theorem ref3_Cut (g cb cap : Nat) (D : Dev) (A : Option Addr) (an ac : Nat) (keep : List Int) (w : World) (hd : RefAt w g cb cap D) (hk : Is w A an keep) (han : an ≤ 1000000) (hsafe : 0 < an → ∀ b off s, A = some ⟨b, off, s⟩ → b ≠ g ∧ b ≠ cb) :
    Calls Try.prog 60 #[.pointer (some ⟨g, 0, none⟩), .slice A an ac] w fun e w' => ∃ A' c', e = .returned (.slice A' (lostTo keep D.lines D.lines.length).length c') ∧
      w'.ownsRow w.heap.size 3 1 (.slice A' (lostTo keep D.lines D.lines.length).length c') (lostTo keep D.lines D.lines.length).length ((lostTo keep D.lines D.lines.length).map (.int .i64)) ∧ RefAt w' g cb cap (cutD D keep) ∧ Only [g, cb] w w' := by
  have hf := hd.few
  have hne := hd.ne
  have hne2 := hd.ne.symm
  have hg1 := hd.lt1
  have hg2 := hd.lt2
  have HD := Lib.hid hd
  have HK := Lib.hid hk
  have HSF := Lib.hid hsafe
  clear hd hk hsafe
  obtain ⟨m, hm⟩ : ∃ m, m = D.lines.length := ⟨_, rfl⟩
  rw [← hm] at hf ⊢
  have HM := Lib.hid hm
  clear hm
  obtain ⟨i0, hi, hz0, hz1, hz2⟩ := info_parts Try.intInfo
  have HI := Lib.hid hi
  have HZ0 := Lib.hid hz0
  have HZ1 := Lib.hid hz1
  have HZ2 := Lib.hid hz2
  clear hi hz0 hz1 hz2
  go_enter Try.func60, Try.ntmps60
  go_wp2
  go_loopw [5, 6, 7] (fun v i _ wr => ∃ (k n : Nat), k ≤ m ∧ i = .int .i64 k ∧ n = (lostTo keep D.lines k).length ∧ wr.ownsRow w.heap.size 3 1 v n ((lostTo keep D.lines k).map (.int .i64)) ∧ RefAt wr g cb cap { D with lines := upTo (cutL keep) D.lines k } ∧ Only [g, cb] w wr) (fun _ i _ _ => m - (intOf i).toNat)
  case atStart => exact ⟨0, 0, Nat.zero_le _, rfl, rfl, own_nil _ _ _ _, by rw [upTo_zero]; exact HD.out, Only.refl _ _⟩
  case round =>
    obtain ⟨k, n, hk, rfl, hn, ho, hd, on⟩ := hrel
    have hnk := lostTo_length keep D.lines k
    have hc0 : wr.cell? ⟨g, 0, none⟩ = some (.slice (some ⟨cb, 0, none⟩) m cap) := by
      rw [hd.cell 0]
      simp [headOf, upTo_length, HM.out]
    by_cases hlt : k < m
    · have hkl : k < D.lines.length := by rw [← HM.out]; exact hlt
      obtain ⟨x, U, hU, hUl, hUx, hok, hup, hset, hsu⟩ := cut_round D HD.out.ok keep k hkl
      rw [hU] at hd
      have hkl2 : k < U.length := by rw [hUl]; exact hkl
      have b1 := hd.now (i := k) hkl2
      have b2 := hd.kept (i := k) hkl2
      simp only [(List.getElem?_eq_some_iff.1 hUx).2] at b1 b2
      have hcl : cutL keep k x = (if (x.now != x.kept) = true ∧ (k : Int) ∈ keep then { x with kept := x.now, sent := false } else { x with now := x.kept, sent := false }) := rfl
      have hil : isLost keep k x = ((x.now != x.kept) && !decide ((k : Int) ∈ keep)) := rfl
      have hdx : RefAt wr g cb cap { D with lines := U.set k x } := by rw [hset]; exact hd
      have s1 : (Try.prog.info? 91).map (·.size) = some x.now.length := by rw [hok.1]; exact arrSize3
      have s2 : (Try.prog.info? 91).map (·.size) = some x.kept.length := by rw [hok.2.1]; exact arrSize3
      have hq := neq_arr3 x.now x.kept hok.1 hok.2.1
      have hg := fun (a b : Operand) (w : World) => eqGuard_arr (P := Try.prog) arrGuard3 .neq a b x.now x.kept w
      have c1 : Bs wr (some ⟨cb, k * 193, none⟩) x.now.length x.now := by rw [hok.1]; exact b1
      have c2 : Bs wr (some ⟨cb, k * 193 + 64, none⟩) x.kept.length x.kept := by rw [hok.2.1]; exact b2
      have hkeepw := is_only_pos HK.out on (by intro hp b off s e hb; have := HSF.out hp b off s e; simp at hb; omega)
      have HKW := Lib.hid hkeepw
      have HOK := Lib.hid hok
      have HO := Lib.hid ho
      have ON := Lib.hid on
      have HN := Lib.hid hn
      have HDX := Lib.hid hdx
      have HSU := Lib.hid hsu
      have HUP := Lib.hid hup
      have HCL := Lib.hid hcl
      have HIL := Lib.hid hil
      have S1 := Lib.hid s1
      have S2 := Lib.hid s2
      have C1 := Lib.hid c1
      have C2 := Lib.hid c2
      have HUL := Lib.hid (show U.length = m by rw [hUl, HM.out])
      clear hok ho on hn hd hdx hsu hup hcl hil s1 s2 c1 c2 b1 b2 hkeepw hset hU hUl hUx
      go_wp2_with fail
      refine wp_region_later wr (by kernel_rfl) (by kernel_rfl) ?_
      have hlc := fun (p : Later wr) => Later.cell p hc0
      clear hc0
      repeat (quiet_step (fail))
      refine later_load rfl 91 (.tmp 23) rfl cb (k * 193) rfl x.now C1.out 64 5 Try.underlying91 S1.out ?_
      repeat (quiet_step (fail))
      refine later_load rfl 91 (.tmp 31) rfl cb (k * 193 + 64) rfl x.kept C2.out 64 5 Try.underlying91 S2.out ?_
      repeat (quiet_step (fail))
      repeat (quiet_step (fail))
      refine wpQuiet_nil ?_
      intro _ hw'
      obtain ⟨p, hw''⟩ := hw'
      subst hw''
      have opw := p.only
      have hc0 := hlc p
      generalize p.w = w1 at *
      have HDX := Lib.hid (HDX.out.only0 opw)
      have HO := Lib.hid (own_only HO.out opw (by simp))
      have ON := Lib.hid (ON.out.trans0 opw)
      have HKW := Lib.hid (Is.only0 HKW.out opw)
      have HIN := Lib.hid (fun w (e : w1 = w) => ref3_in A an ac keep (k : Int) w (e ▸ HKW.out) han)
      have hklU : ∀ y : Line, k < (U.set k y).length := fun y => by rw [List.length_set]; exact hkl2
      have HKU := Lib.hid hklU
      clear opw hlc hq hg S1 S2 C1 C2 hklU hkl2
      generalize (x.now != x.kept) = bb at *
      by_cases hbb : bb = true
      · subst hbb
        by_cases hin : (k : Int) ∈ keep
        · have hy := HCL.out
          rw [if_pos ⟨rfl, hin⟩] at hy
          have hl := HIL.out
          rw [decide_eq_true hin] at hl
          have hii := HIN.out
          rw [decide_eq_true hin] at hii
          have HII := Lib.hid hii
          have HLK := Lib.hid hl
          clear hii hl hin
          go_wp2_with (refine (HII.out _ rfl).mono ?_; rintro e w' ⟨rfl, rfl⟩)
          refine wp_region_still_tail 15 (by kernel_rfl) (by kernel_rfl) ?_
          simp only [List.take_succ_cons, List.take_zero, List.drop_succ_cons, List.drop_zero]
          generalize hwd : ({ w1 with drawn := w1.drawn + 1 } : World) = wd7
          have hcd7 : wd7.cell? ⟨g, 0, none⟩ = some (.slice (some ⟨cb, 0, none⟩) m cap) := hwd ▸ hc0
          have ONW7 := Lib.hid (still_only hwd)
          clear hwd hc0
          have HDW7 := Lib.hid (HDX.out.only0 ONW7.out)
          have hsr7 := HDW7.out.now (i := k) (HKU.out _)
          simp only [List.getElem_set_self] at hsr7
          have hle7 : (x.now).length = 64 := HOK.out.1
          have hsr27 : Bs wd7 (some ⟨cb, k * 193, none⟩) (x.now).length (x.now) := by rw [hle7]; exact hsr7
          obtain ⟨cs7, hbk7, hfit7, hwr7⟩ := IsDev.ready HDW7.out (i := k) (HKU.out _)
          have hft7 := hfit7 64 (x.now) hle7 (by omega)
          have HWR7 := Lib.hid (hwr7 64 (x.now) { x with kept := x.now } (by rw [hle7]; omega) (by simp only [List.getElem_set_self]; exact cells_kept _ HOK.out _ hle7) ⟨HOK.out.1, HOK.out.1, HOK.out.2.2⟩)
          have SA7 := Lib.hid (show (Try.prog.info? 91).map (·.size) = some (x.now).length by rw [hle7]; exact arrSize3)
          have SB7 := Lib.hid (show (Try.prog.info? 91).map (·.size) = some ((x.now).map B).toArray.size by rw [List.size_toArray, List.length_map, hle7]; exact arrSize3)
          clear hfit7 hwr7 hsr7 hle7
          repeat still_step
          refine still_load_arr rfl 91 (.tmp 51) rfl cb (k * 193) rfl (x.now) hsr27 64 5 Try.underlying91 SA7.out ?_
          repeat still_step
          refine wpStill_nil ?_
          refine wpList_store_blk rfl 91 (.tmp 54) (.tmp 52) rfl cb (k * 193 + 64) (x.now.map B).toArray rfl rfl 127 cs7 hbk7 hft7 SB7.out (all_B _) ?_
          intro w2 hb2 ho2 hs2
          have hd2 := HWR7.out w2 hb2 ho2
          simp only [List.set_set] at hd2
          have hc0 : w2.cell? ⟨g, 0, none⟩ = some (.slice (some ⟨cb, 0, none⟩) m cap) := by
            rw [hd2.cell 0]
            simp [headOf, HUL.out]
          have HDX := Lib.hid hd2
          have HO := Lib.hid (own_only HO.out ((ONW7.out.mono (T := [cb]) (by simp)).trans ho2 (by simp)) (by intro b hb; have := World.ownsRow.lt HO.out b hb; simp; omega))
          have ON := Lib.hid ((ON.out.trans0 ONW7.out).trans ho2 (by simp))
          clear hd2 hb2 ho2 hbk7 hcd7
          have HCY := Lib.hid (show ({ { x with kept := x.now } with now := ({ x with kept := x.now } : Line).kept, sent := false } : Line) = cutL keep k x by rw [hy])
          clear hy
          have HYO := Lib.hid (show ({ x with kept := x.now } : Line).Ok from ⟨HOK.out.1, HOK.out.1, HOK.out.2.2⟩)
          generalize ({ x with kept := x.now } : Line) = y at *
          go_wp2_with fail
          refine wp_region_still_tail 15 (by kernel_rfl) (by kernel_rfl) ?_
          simp only [List.take_succ_cons, List.take_zero, List.drop_succ_cons, List.drop_zero]
          generalize hwd : ({ w2 with drawn := w2.drawn + 1 } : World) = wd8
          have hcd8 : wd8.cell? ⟨g, 0, none⟩ = some (.slice (some ⟨cb, 0, none⟩) m cap) := hwd ▸ hc0
          have ONW8 := Lib.hid (still_only hwd)
          clear hwd hc0
          have HDW8 := Lib.hid (HDX.out.only0 ONW8.out)
          have hsr8 := HDW8.out.kept (i := k) (HKU.out _)
          simp only [List.getElem_set_self] at hsr8
          have hle8 : (y.kept).length = 64 := HYO.out.2.1
          have hsr28 : Bs wd8 (some ⟨cb, k * 193 + 64, none⟩) (y.kept).length (y.kept) := by rw [hle8]; exact hsr8
          obtain ⟨cs8, hbk8, hfit8, hwr8⟩ := IsDev.ready HDW8.out (i := k) (HKU.out _)
          have hft8 := hfit8 0 (y.kept) hle8 (by omega)
          have HWR8 := Lib.hid (hwr8 0 (y.kept) { y with now := y.kept } (by rw [hle8]; omega) (by simp only [List.getElem_set_self]; exact cells_now _ HYO.out _ hle8) ⟨HYO.out.2.1, HYO.out.2.1, HYO.out.2.2⟩)
          have SA8 := Lib.hid (show (Try.prog.info? 91).map (·.size) = some (y.kept).length by rw [hle8]; exact arrSize3)
          have SB8 := Lib.hid (show (Try.prog.info? 91).map (·.size) = some ((y.kept).map B).toArray.size by rw [List.size_toArray, List.length_map, hle8]; exact arrSize3)
          clear hfit8 hwr8 hsr8 hle8
          repeat still_step
          refine still_load_arr rfl 91 (.tmp 71) rfl cb (k * 193 + 64) rfl (y.kept) hsr28 64 5 Try.underlying91 SA8.out ?_
          repeat still_step
          refine wpStill_nil ?_
          refine wpList_store_blk rfl 91 (.tmp 74) (.tmp 72) rfl cb (k * 193 + 0) (y.kept.map B).toArray rfl rfl 127 cs8 hbk8 hft8 SB8.out (all_B _) ?_
          intro w5 hb5 ho5 hs5
          have hd5 := HWR8.out w5 hb5 ho5
          simp only [List.set_set] at hd5
          have hc5 : w5.cell? ⟨g, 0, none⟩ = some (.slice (some ⟨cb, 0, none⟩) m cap) := by
            rw [hd5.cell 0]
            simp [headOf, HUL.out]
          have hsc5 := hd5.sentCell (i := k) (HKU.out _)
          simp only [List.getElem_set_self] at hsc5
          have hfz5 := hd5.frozen2 (k * 193 + 192)
          have hsw := IsDev.setSent hd5 (i := k) (HKU.out _) false
          simp only [List.getElem_set_self, List.set_set] at hsw
          have hsw1 := hsw.1
          rw [HCY.out, HUP.out] at hsw1
          have HD9 := Lib.hid hsw1
          have HO9 := Lib.hid (own_only HO.out ((((ONW8.out.mono (T := [cb]) (by simp)).trans ho5 (by simp)).trans hsw.2 (by simp))) (by intro b hb; have := World.ownsRow.lt HO.out b hb; simp; omega))
          have ON9 := Lib.hid (((ON.out.trans0 ONW8.out).trans ho5 (by simp)).trans hsw.2 (by simp))
          clear hd5 hb5 ho5 hbk8 hcd8 hsw hsw1
          go_wp2
          go_roundw
          case rel => exact ⟨k + 1, n, by omega, by go_num, by rw [HSU.out, HLK.out]; exact HN.out, by rw [HSU.out, HLK.out]; exact HO9.out, HD9.out, ON9.out⟩
          case measure => simp [intOf]; omega
        · have hy := HCL.out
          rw [if_neg (fun h => hin h.2)] at hy
          have hl := HIL.out
          rw [decide_eq_false hin] at hl
          have hii := HIN.out
          rw [decide_eq_false hin] at hii
          have HII := Lib.hid hii
          have HLK := Lib.hid hl
          have HCY := Lib.hid (show ({ x with now := x.kept, sent := false } : Line) = cutL keep k x by rw [hy])
          have HYO := HOK
          clear hii hl hin hy
          have hln := (HO.out).1
          obtain ⟨A', c', w', hr, ho2, on2, be2⟩ := append_ownB (P := Try.prog) (w1.alloc (.cells #[.int .i64 (k : Int)] 3)) (ON.out.alloc _) 34 34 3 i0 _ 8 Try.underlying34 HI.out HZ0.out HZ1.out HZ2.out rfl _ n _ (World.ownsRow.alloc HO.out _) (some ⟨w1.heap.size, 0, none⟩) 1 1 [.int .i64 (k : Int)] (cell_new1 _ _ _) (ints_new1 _ _) (by have := HN.out; unfold maxLen; omega) (by have := HN.out; omega)
          have al : Only [] w1 (w1.alloc (.cells #[.int .i64 (k : Int)] 3)) := (Only.refl _ _).alloc _
          have HDX := Lib.hid (IsDev.below (HDX.out.only0 al) be2 hg1 hg2)
          have HO := Lib.hid ho2
          have ON := Lib.hid on2
          have hc0 : w'.cell? ⟨g, 0, none⟩ = some (.slice (some ⟨cb, 0, none⟩) m cap) := by
            rw [HDX.out.cell 0]
            simp [headOf, HUL.out]
          clear ho2 on2 be2 al hln
          go_wp2_with (first | (refine (HII.out _ rfl).mono ?_; rintro e w' ⟨rfl, rfl⟩) | (at_builtin; refine wpList_append_run _ rfl (.tmp 56) (.tmp 58) 34 rfl _ _ rfl rfl _ _ hr ?_))
          refine wp_region_still_tail 15 (by kernel_rfl) (by kernel_rfl) ?_
          simp only [List.take_succ_cons, List.take_zero, List.drop_succ_cons, List.drop_zero]
          generalize hwd : ({ w' with drawn := w'.drawn + 1 } : World) = wd8
          have hcd8 : wd8.cell? ⟨g, 0, none⟩ = some (.slice (some ⟨cb, 0, none⟩) m cap) := hwd ▸ hc0
          have ONW8 := Lib.hid (still_only hwd)
          clear hwd hc0
          have HDW8 := Lib.hid (HDX.out.only0 ONW8.out)
          have hsr8 := HDW8.out.kept (i := k) (HKU.out _)
          simp only [List.getElem_set_self] at hsr8
          have hle8 : (x.kept).length = 64 := HYO.out.2.1
          have hsr28 : Bs wd8 (some ⟨cb, k * 193 + 64, none⟩) (x.kept).length (x.kept) := by rw [hle8]; exact hsr8
          obtain ⟨cs8, hbk8, hfit8, hwr8⟩ := IsDev.ready HDW8.out (i := k) (HKU.out _)
          have hft8 := hfit8 0 (x.kept) hle8 (by omega)
          have HWR8 := Lib.hid (hwr8 0 (x.kept) { x with now := x.kept } (by rw [hle8]; omega) (by simp only [List.getElem_set_self]; exact cells_now _ HYO.out _ hle8) ⟨HYO.out.2.1, HYO.out.2.1, HYO.out.2.2⟩)
          have SA8 := Lib.hid (show (Try.prog.info? 91).map (·.size) = some (x.kept).length by rw [hle8]; exact arrSize3)
          have SB8 := Lib.hid (show (Try.prog.info? 91).map (·.size) = some ((x.kept).map B).toArray.size by rw [List.size_toArray, List.length_map, hle8]; exact arrSize3)
          clear hfit8 hwr8 hsr8 hle8
          repeat still_step
          refine still_load_arr rfl 91 (.tmp 71) rfl cb (k * 193 + 64) rfl (x.kept) hsr28 64 5 Try.underlying91 SA8.out ?_
          repeat still_step
          refine wpStill_nil ?_
          refine wpList_store_blk rfl 91 (.tmp 74) (.tmp 72) rfl cb (k * 193 + 0) (x.kept.map B).toArray rfl rfl 127 cs8 hbk8 hft8 SB8.out (all_B _) ?_
          intro w5 hb5 ho5 hs5
          have hd5 := HWR8.out w5 hb5 ho5
          simp only [List.set_set] at hd5
          have hc5 : w5.cell? ⟨g, 0, none⟩ = some (.slice (some ⟨cb, 0, none⟩) m cap) := by
            rw [hd5.cell 0]
            simp [headOf, HUL.out]
          have hsc5 := hd5.sentCell (i := k) (HKU.out _)
          simp only [List.getElem_set_self] at hsc5
          have hfz5 := hd5.frozen2 (k * 193 + 192)
          have hsw := IsDev.setSent hd5 (i := k) (HKU.out _) false
          simp only [List.getElem_set_self, List.set_set] at hsw
          have hsw1 := hsw.1
          rw [HCY.out, HUP.out] at hsw1
          have HD9 := Lib.hid hsw1
          have HO9 := Lib.hid (own_only HO.out ((((ONW8.out.mono (T := [cb]) (by simp)).trans ho5 (by simp)).trans hsw.2 (by simp))) (by intro b hb; have := World.ownsRow.lt HO.out b hb; simp; omega))
          have ON9 := Lib.hid (((ON.out.trans0 ONW8.out).trans ho5 (by simp)).trans hsw.2 (by simp))
          clear hd5 hb5 ho5 hbk8 hcd8 hsw hsw1
          go_wp2
          go_roundw
          case rel => exact ⟨k + 1, n + 1, by omega, by go_num, by rw [HSU.out, HLK.out]; rw [if_pos (by rfl), List.length_append, HN.out]; rfl, by rw [HSU.out, HLK.out]; simpa using HO9.out, HD9.out, ON9.out⟩
          case measure => simp [intOf]; omega
      · have hbf : bb = false := by simpa using hbb
        subst hbf
        have hy := HCL.out
        rw [if_neg (fun h => by cases h.1)] at hy
        have HLK := HIL
        have HCY := Lib.hid (show ({ x with now := x.kept, sent := false } : Line) = cutL keep k x by rw [hy])
        have HYO := HOK
        clear hy hbb
        go_wp2_with fail
        refine wp_region_still_tail 15 (by kernel_rfl) (by kernel_rfl) ?_
        simp only [List.take_succ_cons, List.take_zero, List.drop_succ_cons, List.drop_zero]
        generalize hwd : ({ w1 with drawn := w1.drawn + 1 } : World) = wd8
        have hcd8 : wd8.cell? ⟨g, 0, none⟩ = some (.slice (some ⟨cb, 0, none⟩) m cap) := hwd ▸ hc0
        have ONW8 := Lib.hid (still_only hwd)
        clear hwd hc0
        have HDW8 := Lib.hid (HDX.out.only0 ONW8.out)
        have hsr8 := HDW8.out.kept (i := k) (HKU.out _)
        simp only [List.getElem_set_self] at hsr8
        have hle8 : (x.kept).length = 64 := HYO.out.2.1
        have hsr28 : Bs wd8 (some ⟨cb, k * 193 + 64, none⟩) (x.kept).length (x.kept) := by rw [hle8]; exact hsr8
        obtain ⟨cs8, hbk8, hfit8, hwr8⟩ := IsDev.ready HDW8.out (i := k) (HKU.out _)
        have hft8 := hfit8 0 (x.kept) hle8 (by omega)
        have HWR8 := Lib.hid (hwr8 0 (x.kept) { x with now := x.kept } (by rw [hle8]; omega) (by simp only [List.getElem_set_self]; exact cells_now _ HYO.out _ hle8) ⟨HYO.out.2.1, HYO.out.2.1, HYO.out.2.2⟩)
        have SA8 := Lib.hid (show (Try.prog.info? 91).map (·.size) = some (x.kept).length by rw [hle8]; exact arrSize3)
        have SB8 := Lib.hid (show (Try.prog.info? 91).map (·.size) = some ((x.kept).map B).toArray.size by rw [List.size_toArray, List.length_map, hle8]; exact arrSize3)
        clear hfit8 hwr8 hsr8 hle8
        repeat still_step
        refine still_load_arr rfl 91 (.tmp 71) rfl cb (k * 193 + 64) rfl (x.kept) hsr28 64 5 Try.underlying91 SA8.out ?_
        repeat still_step
        refine wpStill_nil ?_
        refine wpList_store_blk rfl 91 (.tmp 74) (.tmp 72) rfl cb (k * 193 + 0) (x.kept.map B).toArray rfl rfl 127 cs8 hbk8 hft8 SB8.out (all_B _) ?_
        intro w5 hb5 ho5 hs5
        have hd5 := HWR8.out w5 hb5 ho5
        simp only [List.set_set] at hd5
        have hc5 : w5.cell? ⟨g, 0, none⟩ = some (.slice (some ⟨cb, 0, none⟩) m cap) := by
          rw [hd5.cell 0]
          simp [headOf, HUL.out]
        have hsc5 := hd5.sentCell (i := k) (HKU.out _)
        simp only [List.getElem_set_self] at hsc5
        have hfz5 := hd5.frozen2 (k * 193 + 192)
        have hsw := IsDev.setSent hd5 (i := k) (HKU.out _) false
        simp only [List.getElem_set_self, List.set_set] at hsw
        have hsw1 := hsw.1
        rw [HCY.out, HUP.out] at hsw1
        have HD9 := Lib.hid hsw1
        have HO9 := Lib.hid (own_only HO.out ((((ONW8.out.mono (T := [cb]) (by simp)).trans ho5 (by simp)).trans hsw.2 (by simp))) (by intro b hb; have := World.ownsRow.lt HO.out b hb; simp; omega))
        have ON9 := Lib.hid (((ON.out.trans0 ONW8.out).trans ho5 (by simp)).trans hsw.2 (by simp))
        clear hd5 hb5 ho5 hbk8 hcd8 hsw hsw1
        go_wp2
        go_roundw
        case rel => exact ⟨k + 1, n, by omega, by go_num, by rw [HSU.out, HLK.out]; exact HN.out, by rw [HSU.out, HLK.out]; exact HO9.out, HD9.out, ON9.out⟩
        case measure => simp [intOf]; omega
    · obtain rfl : k = m := by omega
      have hall : upTo (cutL keep) D.lines k = D.lines.mapIdx (cutL keep) := by rw [HM.out, upTo_all]
      rw [hall] at hd
      obtain ⟨A', c', rfl, _, _⟩ := own_slice ho
      subst hn
      have hc5 : wr.cell? ⟨g, 5, none⟩ = some (.int .i64 D.cuts) := hd.cell 5
      have hf5 := hd.frozen1 5
      have hcnt := IsDev.count (D' := cutD D keep) hd 5 (wrap64 (D.cuts + 1)) rfl (by unfold cutD headOf; simp)
      have HR5 := Lib.hid (own_only ho hcnt.2 (by intro b hb2; have := World.ownsRow.lt ho b hb2; simp; omega))
      have HCN := Lib.hid hcnt
      have ON := Lib.hid on
      clear hd on hall hcnt ho
      go_wp2
      go_ret
      exact ⟨A', c', rfl, HR5.out, HCN.out.1, ON.out.trans HCN.out.2 (by simp)⟩
theorem lineZero3 : ∃ i z, Try.prog.info? 127 = some i ∧ i.zero = some z ∧ i.size = 193 ∧ z.cells = (cellsOf noLine).toArray ∧ i.bytes = 193 := ⟨_, _, rfl, rfl, rfl, rfl, rfl⟩
set_option maxHeartbeats 1000000 in
theorem ref3_New (n : Nat) (w : World) (h1 : 1 ≤ n) (h2 : n ≤ 258) :
    Calls Try.prog 50 #[.int .i64 n] w fun e w' => ∃ g cb, e = .returned (.tuple #[.pointer (some ⟨g, 0, none⟩), .int .i64 0]) ∧ RefAt w' g cb n (newDev n) ∧ Only [] w w' ∧ w.heap.size ≤ g ∧ w.heap.size ≤ cb := by
  obtain ⟨ci, cz, hi, hz, hs, hc, hby⟩ := lineZero3
  obtain ⟨w1, hr, hb, ho, hg⟩ := make_lines (P := Try.prog) (w := w) 117 127 ci cz Try.underlying117 hi hz hs hc n (by rw [hby]; omega) (by omega)
  have HB := Lib.hid hb
  have HON := Lib.hid ho
  have HG := Lib.hid hg
  clear hb ho hg hi hz hc
  have hh1 : decide ((n : Int) < 1) = false := by go_num
  have hh2 : decide ((258 : Int) < (n : Int)) = false := by go_num
  go_enter Try.func50, Try.ntmps50
  go_wp2
  go_ret2
  have hal : Only [] w1 (w1.alloc (.cells (headOf w.heap.size n (newDev n)) 119)) := (Only.refl _ _).alloc _
  have hln : (newDev n).lines.length = n := List.length_replicate
  have hhd := Blk.new w1 119 (headOf w.heap.size n (newDev n))
  have hg2 := HG.out
  have he : headOf w.heap.size n (newDev n) = #[.slice (some ⟨w.heap.size, 0, none⟩) n n, .int .i64 0, .int .i64 0, .int .i64 0, .int .i64 0, .int .i64 0] := by
    unfold headOf
    rw [hln]
    rfl
  rw [he] at hal
  refine ⟨w1.heap.size, w.heap.size, rfl, ⟨?_, ⟨_, HB.out.only hal (by simp), ?_⟩, by omega, allOk_new n, by omega, by omega⟩, HON.out.trans0 hal, by omega, Nat.le_refl _⟩
  · rw [he] at hhd ⊢
    exact hhd
  · rw [hln]
    unfold newDev
    have := flat_length (allOk_new n)
    rw [List.length_replicate] at this
    exact List.take_of_length_le (by simp [this])
theorem ref3_New_no (n : Int) (w : World) (h : n < 1 ∨ 258 < n) :
    Calls Try.prog 50 #[.int .i64 n] w fun e w' => e = .returned (.tuple #[.pointer none, .int .i64 2]) ∧ w' = w := by
  by_cases h1 : n < 1
  · have hh1 : decide (n < 1) = true := by simpa using h1
    clear h
    go_enter Try.func50, Try.ntmps50
    go_wp2
    go_ret2
    exact ⟨rfl, rfl⟩
  · have h2 : 258 < n := by omega
    have hh1 : decide (n < 1) = false := by simpa using h1
    have hh2 : decide (258 < n) = true := by simpa using h2
    clear h
    go_enter Try.func50, Try.ntmps50
    go_wp2
    go_ret2
    exact ⟨rfl, rfl⟩
end Go.Proofs.Ytfafpggppbolkaa
/- Lists of numbers that are lent, and looked at again. -/
set_option maxRecDepth 100000
namespace Go.Proofs.Ytfafpggppbolkaa
open Go.RowKit Go.Proofs.FuMem
def I (x : Int) : Value := .int .i64 x
/-- a lent slice: its block holds the numbers and three marks -/
def LentI (w : World) (g : Nat) (l : List Int) : Prop := Blk w g 3 ((l.map (Value.int .i64)) ++ List.replicate 3 (I (-777))).toArray
def lentITo (l : List Int) (j : Nat) : Array Value := ((l.map (Value.int .i64)) ++ List.replicate j (I (-777)) ++ List.replicate (3 - j) (I 0)).toArray
theorem lentITo_size (l : List Int) (j : Nat) (hj : j ≤ 3) : (lentITo l j).size = l.length + 3 := by simp [lentITo]; omega
theorem lentITo_set (l : List Int) (j : Nat) (hj : j < 3) : (lentITo l j).setIfInBounds (l.length + j) (I (-777)) = lentITo l (j + 1) := by
  apply Array.ext'
  simp only [lentITo, Array.toList_setIfInBounds]
  apply List.ext_getElem
  · simp; omega
  · intro i h1 h2
    simp only [List.getElem_set, List.getElem_append, List.getElem_map, List.getElem_replicate, List.length_map, List.length_append, List.length_replicate]
    repeat' split
    all_goals first | rfl | omega
theorem lentI_start (l : List Int) (n : Nat) : ((Array.replicate (n + 3) (Value.int .i64 0)).toList.take 0 ++ l.map (Value.int .i64) ++ (Array.replicate (n + 3) (Value.int .i64 0)).toList.drop (0 + n)).toArray = lentITo l 0 := by
  simp [lentITo, I]
theorem law0_LendInts (A : Option Addr) (n c : Nat) (l : List Int) (w : World) (h : Is w A n l) (hn : n ≤ 1000000) :
    Calls Try.prog 82 #[.slice A n c] w fun e w' => e = .returned (.slice (some ⟨w.heap.size, 0, none⟩) n (n + 3)) ∧ LentI w' w.heap.size l ∧ Only [] w w' := by
  obtain ⟨i0, hi, hz0, hz1, hz2⟩ := info_parts Try.intInfo
  obtain ⟨w1, hmk, hb1, ho1, hs1⟩ := make_blk (P := Try.prog) w 34 3 i0 _ Try.underlying34 hi hz0 hz1 rfl .i64 .i64 0 (n + 3) (by omega) (by rw [hz2]; omega) (by omega)
  obtain ⟨w2, hap, hb2, ho2, hs2⟩ := append_blk (P := Try.prog) w1 34 34 3 i0 Try.underlying34 hi hz1 w.heap.size 0 (n + 3) _ hb1 A n c _ (Sl.only0 h ho1) one_I (by omega) (by simp)
  rw [lentI_start l n] at hb2
  have ho : Only [] w w2 := ho1.trans ho2 (by simp)
  simp only [Nat.zero_add, Int.natCast_add, Int.cast_ofNat_Int] at hmk hap
  have HL := Lib.hid h.len
  clear h hs1 hs2 hb1 ho1 ho2 hi hz0 hz1 hz2
  go_enter Try.func82, Try.ntmps82
  go_wp2_with (at_builtin; refine wpList_append_run _ rfl (.tmp 10) (.tmp 11) 34 rfl _ _ rfl rfl _ _ hap ?_)
  go_loopw [5] (fun k wr => ∃ j : Nat, j ≤ 3 ∧ k = .int .i64 j ∧ Blk wr w.heap.size 3 (lentITo l j) ∧ Only [] w wr) (fun k _ => 3 - (intOf k).toNat)
  case atStart => exact ⟨0, Nat.zero_le _, rfl, hb2, ho⟩
  case round =>
    obtain ⟨j, hj, rfl, hb, ho'⟩ := hrel
    by_cases hlt : j < 3
    · have hsz := lentITo_size l j hj
      rw [HL.out] at hsz
      obtain ⟨u, hcell⟩ := hb.some_ (i := n + j) (by omega)
      have hfr := hb.frozen (n + j)
      have hset := hb.set (n + j) (I (-777))
      rw [show n + j = l.length + j by rw [HL.out], lentITo_set l j hlt, HL.out] at hset
      have hon := ho'.setCell (p := ⟨w.heap.size, n + j, none⟩) (.inr (Nat.le_refl _)) (I (-777))
      have H1 := Lib.hid hset
      have H2 := Lib.hid hon
      clear hset hon hb ho' hsz
      go_wp2
      go_roundw
      case rel => exact ⟨j + 1, by omega, by go_num, H1.out, H2.out⟩
      case measure => simp [intOf]; omega
    · obtain rfl : j = 3 := by omega
      have H1 := Lib.hid hb
      have H2 := Lib.hid ho'
      clear hb ho'
      go_wp2
      go_ret
      exact ⟨rfl, by have := H1.out; simpa [lentITo, LentI] using this, H2.out⟩
theorem LentI.is {w : World} {g n : Nat} {l : List Int} (h : LentI w g l) (hl : l.length = n) : Is w (some ⟨g, 0, none⟩) n l := Sl.of_blk h 0 (by simp [← hl]) (by simp [← hl])
theorem law0_KeptInts (A : Option Addr) (n c : Nat) (l : List Int) (g : Nat) (w : World) (hg : LentI w g l) (h : Is w A n l) (hn : n ≤ 1000000) :
    Calls Try.prog 83 #[.slice (some ⟨g, 0, none⟩) n (n + 3), .slice A n c] w fun e w' => e = .returned (.bool true) ∧ Only [] w w' := by
  have hl := h.len
  have hcell : ∀ j, j < 3 → w.cell? ⟨g, n + j, none⟩ = some (.int .i64 (-777)) := fun j hj => by
    rw [Blk.cell hg, ← hl, List.getElem?_toArray, List.getElem?_append_right (by simp), List.getElem?_replicate_of_lt (by simpa using hj)]
    rfl
  have hb : Is w (some ⟨g, 0, none⟩) n l := LentI.is hg hl
  have H := Lib.hid hcell
  have HC := Lib.hid (law0_SameInts (some ⟨g, 0, none⟩) A n n (n + 3) c l l w hb h (by omega) (by omega))
  clear hcell hb hg h hl
  go_enter Try.func83, Try.ntmps83
  go_wp2
  go_loop [6] (fun k => ∃ j : Nat, j ≤ 3 ∧ k = .int .i64 j) (fun k => 3 - (intOf k).toNat)
  case atStart => exact ⟨0, Nat.zero_le _, rfl⟩
  case round =>
    obtain ⟨j, hj, rfl⟩ := hrel
    by_cases hlt : j < 3
    · have hc := H.out j hlt
      go_wp2
      go_round
      case rel => exact ⟨j + 1, by omega, by go_num⟩
      case measure => simp [intOf]; omega
    · go_wp2_with fail
      refine HC.out.mono ?_
      rintro e w' ⟨rfl, o1⟩
      rw [beq_self_eq_true]
      have O1 := Lib.hid o1
      clear o1
      go_wp2
      go_ret
      exact ⟨rfl, O1.out⟩
end Go.Proofs.Ytfafpggppbolkaa
/- The contract of code.Put. -/
namespace Go.Proofs.Ytfafpggppbolkaa
open Go.RowKit Go.Proofs.FuMem Go.Proofs.FuCode
set_option maxRecDepth 100000
/-- bytes and an error handed back -/
def MadeE (w : World) (r : List UInt8 × Nat) (e : Ending) (w' : World) : Prop := ∃ x, e = .returned (.tuple #[x, .int .i64 r.2]) ∧ MadeB w r.1 x w'
theorem madeE_err (w : World) (k : Nat) : MadeE w ([], k) (.returned (.tuple #[.slice none 0 0, .int .i64 k])) w := ⟨_, rfl, none, 0, rfl, own_nil _ _ _ _, Only.refl _ _⟩
theorem byte_shr (v j : Nat) : ((v : Int) / 2 ^ (8 * j) % 256) = ((UInt8.ofNat (v / 256 ^ j % 256)).toNat : Int) := by
  rw [ofNat_mod, pow256]
  simp
theorem over_lay_succ (l : List UInt8) (a j v : Nat) (h : a + j < l.length) : (over l a (lay j v)).set (a + j) (UInt8.ofNat (v / 256 ^ j % 256)) = over l a (lay (j + 1) v) := by
  have := over_snoc l a (lay j v) (UInt8.ofNat (v / 256 ^ j % 256)) (by rw [lay_length]; exact h)
  rw [lay_succ, this, lay_length]
theorem shr_pos {v m : Nat} (h : 256 ^ m ≤ v) : ((v : Int) / 2 ^ (8 * m) != 0) = true := by
  have h0 : 0 < v / 256 ^ m := Nat.div_pos h (Nat.pow_pos (by omega))
  rw [pow256] at h0
  have : (v : Int) / 2 ^ (8 * m) = ((v / 2 ^ (8 * m) : Nat) : Int) := by simp
  rw [bne_iff_ne]
  omega
theorem shr_zero {v m : Nat} (h : v < 256 ^ m) : ((v : Int) / 2 ^ (8 * m) != 0) = false := by
  have h0 : v / 256 ^ m = 0 := Nat.div_eq_of_lt h
  rw [pow256] at h0
  have : (v : Int) / 2 ^ (8 * m) = ((v / 2 ^ (8 * m) : Nat) : Int) := by simp
  rw [this, h0]
  rfl
theorem code_Put (A : Option Addr) (n c : Nat) (l : List UInt8) (at_ k : Int) (v : Nat) (w : World) (h : Bs w A n l) (hn : n ≤ 1000000) (h1 : -9223372036854775808 ≤ at_ ∧ at_ ≤ 9223372036854775807) (h2 : -9223372036854775808 ≤ k ∧ k ≤ 9223372036854775807) (hv : v < 18446744073709551616) :
    Calls Try.prog 95 #[.slice A n c, .int .i64 at_, .int .i64 k, .int .u64 v] w (MadeE w (put l at_ k v)) := by
  have hl := h.len
  have hck := code_check A n c at_ k w (by unfold maxLen; omega) h1 h2
  by_cases hw : wrong n at_ k = 0
  · obtain ⟨hk1, hk2, ha1, ha2⟩ := wrong_zero hw
    obtain ⟨a, rfl⟩ := Int.eq_ofNat_of_zero_le ha1
    obtain ⟨m, rfl⟩ := Int.eq_ofNat_of_zero_le (show 0 ≤ k by omega)
    rw [hw] at hck
    by_cases hbig : 256 ^ m ≤ v
    · have hm : m < 8 := by
        rcases Nat.lt_or_ge m 8 with h8 | h8
        · exact h8
        · have : 256 ^ 8 ≤ 256 ^ m := Nat.pow_le_pow_right (by omega) h8
          omega
      have hp : put l (a : Int) (m : Int) v = ([], 11) := by
        unfold put
        rw [hl, hw, if_neg (by omega), if_pos (by simpa using hbig)]
      have hs := shr_pos hbig
      rw [hp]
      have HC := Lib.hid hck
      clear hck hw hp hbig h hl
      go_enter Try.func95, Try.ntmps95
      go_wp2_with fail
      refine (HC.out).mono ?_
      rintro e w' ⟨rfl, rfl⟩
      go_wp2
      go_ret2
      exact madeE_err _ 11
    · have hp : put l (a : Int) (m : Int) v = (over l a (lay m v), 0) := by
        unfold put
        rw [hl, hw, if_neg (by omega), if_neg (by simpa using hbig)]
        simp
      rw [hp]
      have hs := shr_zero (Nat.lt_of_not_le hbig)
      have hcl := clone_bytes A n c l w h hn
      have HCL := Lib.hid hcl
      have HC := Lib.hid hck
      have HL := Lib.hid hl
      clear hck hw hp hbig h hl hcl
      by_cases hm : m < 8
      all_goals
        go_enter Try.func95, Try.ntmps95
        go_wp2_with fail
        refine (HC.out).mono ?_
        rintro e w' ⟨rfl, rfl⟩
        go_wp2_with fail
        refine HCL.out.mono ?_
        rintro e w1 ⟨_, rfl, A1, c1, rfl, ho, on⟩
        rw [HL.out] at ho ⊢
        obtain ⟨g, rfl, hbg, hgl, ho⟩ := OwnB.of ho (by omega)
        have HO := Lib.hid ho
        have HN := Lib.hid on
        clear ho on
        go_wp2
        go_loopw [12, 32] (fun _ i wr => ∃ j : Nat, j ≤ m ∧ i = .int .i64 j ∧ OwnB 5 wr w.heap.size g n c1 (over l a (lay j v)) ∧ Only [] w wr) (fun _ i _ => m - (intOf i).toNat)
        case atStart => exact ⟨0, Nat.zero_le _, rfl, by rw [show lay 0 v = [] from rfl, over_nil]; exact HO.out, HN.out⟩
        case round =>
          obtain ⟨j, hj, rfl, ho, on⟩ := hrel
          by_cases hlt : j < m
          · have hcell := ho.cell (a + j) (by omega)
            have hfr := ho.frozen (a + j)
            have hst := ho.set (a + j) (byte_shr v j)
            rw [over_lay_succ l a j v (by rw [HL.out]; omega)] at hst
            have on2 := on.setCell (p := ⟨g, a + j, none⟩) (.inr hbg) (.int .u8 ((v : Int) / 2 ^ (8 * j) % 256))
            have H1 := Lib.hid hst
            have H2 := Lib.hid on2
            clear ho on hst on2
            go_wp2
            go_roundw
            case rel => exact ⟨j + 1, by omega, by go_num, H1.out, H2.out⟩
            case measure => simp [intOf]; omega
          · obtain rfl : j = m := by omega
            have H1 := Lib.hid ho
            have H2 := Lib.hid on
            clear ho on
            go_wp2
            go_ret2
            exact ⟨.slice (some ⟨g, 0, none⟩) n c1, rfl, madeB_of H1.out H2.out⟩
  · have hp : put l at_ k v = ([], wrong n at_ k) := by
      unfold put
      rw [hl, if_pos hw]
    rw [hp]
    have hle := wrong_le n at_ k
    generalize wrong n at_ k = e at *
    have hb : ((e : Int) != 0) = true := by rw [bne_iff_ne]; omega
    have HC := Lib.hid hck
    clear hck hw hp h hl
    go_enter Try.func95, Try.ntmps95
    go_wp2_with fail
    refine (HC.out).mono ?_
    rintro e w' ⟨rfl, rfl⟩
    go_wp2
    go_ret2
    exact madeE_err _ _
end Go.Proofs.Ytfafpggppbolkaa
/- The contracts of code.Get, code.Zeros. -/
namespace Go.Proofs.Ytfafpggppbolkaa
open Go.RowKit Go.Proofs.FuMem Go.Proofs.FuCode
set_option maxRecDepth 100000
theorem bits_or64 (a b : Nat) (ha : a < 18446744073709551616) (hb : b < 18446744073709551616) : bits .or .u64 (a : Int) (b : Int) = ((a ||| b : Nat) : Int) := by
  have hx : a ||| b < 18446744073709551616 := Nat.or_lt_two_pow (n := 64) ha hb
  show IntKind.u64.wrap ((BitVec.ofInt 64 (a : Int) ||| BitVec.ofInt 64 (b : Int)).toNat : Int) = _
  rw [BitVec.toNat_or, BitVec.ofInt_natCast, BitVec.ofInt_natCast, BitVec.toNat_ofNat, BitVec.toNat_ofNat, Nat.mod_eq_of_lt (by omega), Nat.mod_eq_of_lt (by omega), IntKind.wrap_u64]
  omega
theorem or_step (l : List UInt8) (a j : Nat) (hj : j < 8) (h : a + j < l.length) :
    bits .or .u64 (num ((l.drop a).take j) : Int) (IntKind.u64.wrap (IntKind.u64.wrap (l[a + j].toNat : Int) * 2 ^ (8 * j))) = (num ((l.drop a).take (j + 1)) : Int) := by
  have h2 : j < (l.drop a).length := by simp; omega
  have e := num_take_succ (l.drop a) j h2
  rw [List.getElem_drop] at e
  have hx := num_lt ((l.drop a).take j)
  rw [List.length_take, Nat.min_eq_left (by omega)] at hx
  have hy := l[a + j].toNat_lt
  generalize l[a + j].toNat = y at *
  generalize num ((l.drop a).take j) = x at *
  have hp : 256 ^ (j + 1) ≤ 18446744073709551616 := pow_le8 _ (by omega)
  have h3 : y * 256 ^ j + 256 ^ j ≤ 256 ^ (j + 1) := by
    rw [Nat.pow_succ, Nat.mul_comm y]
    have := Nat.mul_le_mul_left (256 ^ j) (show y + 1 ≤ 256 by omega)
    rw [Nat.mul_add] at this
    omega
  have e1 : IntKind.u64.wrap (IntKind.u64.wrap (y : Int) * 2 ^ (8 * j)) = ((y * 2 ^ (8 * j) : Nat) : Int) := by
    rw [← pow256]
    have : (2 : Int) ^ (8 * j) = ((256 ^ j : Nat) : Int) := by rw [pow256]; simp
    rw [this, IntKind.wrap_u64, IntKind.wrap_u64, show (y : Int) % 18446744073709551616 = y by omega, ← Int.natCast_mul]
    omega
  rw [e1, bits_or64 _ _ (by omega) (by rw [← pow256]; omega), num_or x j y hx, e]
theorem code_Get (A : Option Addr) (n c : Nat) (l : List UInt8) (at_ k : Int) (w : World) (h : Bs w A n l) (hn : n ≤ 1000000) (h1 : -9223372036854775808 ≤ at_ ∧ at_ ≤ 9223372036854775807) (h2 : -9223372036854775808 ≤ k ∧ k ≤ 9223372036854775807) :
    Calls Try.prog 67 #[.slice A n c, .int .i64 at_, .int .i64 k] w fun e w' => e = .returned (.tuple #[.int .u64 (cget l at_ k).1, .int .i64 (cget l at_ k).2]) ∧ w = w' := by
  have hl := h.len
  have hck := code_check A n c at_ k w (by unfold maxLen; omega) h1 h2
  by_cases hw : wrong n at_ k = 0
  · obtain ⟨hk1, hk2, ha1, ha2⟩ := wrong_zero hw
    obtain ⟨a, rfl⟩ := Int.eq_ofNat_of_zero_le ha1
    obtain ⟨m, rfl⟩ := Int.eq_ofNat_of_zero_le (show 0 ≤ k by omega)
    rw [hw] at hck
    have hp : cget l (a : Int) (m : Int) = (num ((l.drop a).take m), 0) := by
      unfold cget
      rw [hl, hw, if_neg (by omega)]
      simp
    rw [hp]
    obtain ⟨b, off, rfl, hcell⟩ := h.at_ (by omega)
    have HL := Lib.hid hl
    have HC := Lib.hid hck
    have HX := Lib.hid hcell
    clear hck hw hp h hl hcell
    go_enter Try.func67, Try.ntmps67
    go_wp2_with fail
    refine (HC.out).mono ?_
    rintro e w' ⟨rfl, rfl⟩
    go_wp2
    go_loop [9, 10, 19] (fun v _ i => ∃ j : Nat, j ≤ m ∧ i = .int .i64 j ∧ v = .int .u64 (num ((l.drop a).take j))) (fun _ _ i => m - (intOf i).toNat)
    case atStart => exact ⟨0, Nat.zero_le _, rfl, rfl⟩
    case round =>
      obtain ⟨j, hj, rfl, rfl⟩ := hrel
      by_cases hlt : j < m
      · have hc1 := HX.out (a + j) (by rw [HL.out]; omega)
        have HS := Lib.hid (or_step l a j (by omega) (by rw [HL.out]; omega))
        go_wp2
        go_round
        case rel => exact ⟨j + 1, by omega, by go_num, by rw [HS.out]⟩
        case measure => simp [intOf]; omega
      · obtain rfl : j = m := by omega
        go_wp2
        go_ret2
        exact ⟨rfl, rfl⟩
  · have hp : cget l at_ k = (0, wrong n at_ k) := by
      unfold cget
      rw [hl, if_pos hw]
    rw [hp]
    have hle := wrong_le n at_ k
    generalize wrong n at_ k = e at *
    have hb : ((e : Int) != 0) = true := by rw [bne_iff_ne]; omega
    have HC := Lib.hid hck
    clear hck hw hp h hl
    go_enter Try.func67, Try.ntmps67
    go_wp2_with fail
    refine (HC.out).mono ?_
    rintro e w' ⟨rfl, rfl⟩
    go_wp2
    go_ret2
    exact ⟨rfl, rfl⟩
end Go.Proofs.Ytfafpggppbolkaa
/- Exclusive or on bytes. -/
namespace Go.Proofs.FuMem
theorem xor8 (a : UInt8) (j : Nat) (hj : j < 256) : bits .xor .u8 (a.toNat : Int) (j : Int) = ((a ^^^ UInt8.ofNat j).toNat : Int) := by
  have ha := a.toNat_lt
  have hx : a.toNat ^^^ j < 256 := Nat.xor_lt_two_pow (n := 8) ha hj
  show IntKind.u8.wrap ((BitVec.ofInt 8 (a.toNat : Int) ^^^ BitVec.ofInt 8 (j : Int)).toNat : Int) = _
  rw [BitVec.toNat_xor, BitVec.ofInt_natCast, BitVec.ofInt_natCast, BitVec.toNat_ofNat, BitVec.toNat_ofNat, Nat.mod_eq_of_lt (by omega), Nat.mod_eq_of_lt (by omega), IntKind.wrap_u8, UInt8.toNat_xor, UInt8.toNat_ofNat_of_lt' (by simpa using hj)]
  omega
theorem xor8_ne (a : UInt8) (j : Nat) (h0 : 0 < j) (hj : j < 256) : a ^^^ UInt8.ofNat j ≠ a := by
  intro h
  have h2 := congrArg UInt8.toNat h
  rw [UInt8.toNat_xor, UInt8.toNat_ofNat_of_lt' (by simpa using hj)] at h2
  have h3 : (a.toNat ^^^ j) ^^^ a.toNat = a.toNat ^^^ a.toNat := by rw [h2]
  rw [Nat.xor_comm a.toNat j, Nat.xor_assoc, Nat.xor_self, Nat.xor_zero] at h3
  omega
end Go.Proofs.FuMem
/- The contracts of the reference of chapter 2, and of OverBytes. -/
namespace Go.Proofs.Ytfafpggppbolkaa
open Go.RowKit Go.Proofs.FuMem Go.Proofs.FuCode
set_option maxRecDepth 100000
theorem lay_next (v j y : Nat) (hy : y = v / 256 ^ j) : (lay j v).map B ++ [Value.int .u8 ((y : Int) % 256)] = (lay (j + 1) v).map B := by
  rw [lay_succ, List.map_append, ← hy]
  congr 1
  simp only [List.map_cons, List.map_nil, B, ofNat_mod]
  rw [Int.natCast_emod]
  rfl
theorem one_ints (k : IntKind) (z : Int) : ∀ u ∈ [Value.int k z], u.oneCell' = true := by
  intro u hu
  rw [List.mem_singleton] at hu
  subst hu
  rfl
theorem one_cell (w : World) (t : TypeId) (v : Value) : Sl (w.alloc (.cells #[v] t)) (some ⟨w.heap.size, 0, none⟩) 1 [v] := Sl.of_blk (Blk.new w t #[v]) 0 rfl (by simp)
theorem ref2_Lay (k v : Nat) (w : World) (hk : k ≤ 8) (hv : v < 18446744073709551616) :
    Calls Try.prog 76 #[.int .i64 k, .int .u64 v] w fun e w' => ∃ x, e = .returned x ∧ MadeB w (lay k v) x w' := by
  obtain ⟨i0, hi, hz0, hz1, hz2⟩ := info_parts Try.byteInfo
  have HI := Lib.hid hi
  have HZ0 := Lib.hid hz0
  have HZ1 := Lib.hid hz1
  have HZ2 := Lib.hid hz2
  clear hi hz0 hz1 hz2
  go_enter Try.func76, Try.ntmps76
  go_wp2
  go_loopw [1, 5, 6] (fun x b i wr => ∃ j y : Nat, j ≤ k ∧ i = .int .i64 j ∧ x = .int .u64 (y : Int) ∧ y = v / 256 ^ j ∧ wr.ownsRow w.heap.size 5 1 b j ((lay j v).map B) ∧ Only [] w wr) (fun _ _ i _ => k - (intOf i).toNat)
  case atStart => exact ⟨0, v, Nat.zero_le _, rfl, rfl, by simp, own_nil _ _ _ _, Only.refl _ _⟩
  case round =>
    obtain ⟨j, y, hj, rfl, rfl, hy, ho, on⟩ := hrel
    by_cases hlt : j < k
    · have hyj : y < 18446744073709551616 := by rw [hy]; exact Nat.lt_of_le_of_lt (Nat.div_le_self _ _) hv
      have hq : y / 256 = v / 256 ^ (j + 1) := by rw [Nat.pow_succ, ← Nat.div_div_eq_div_mul, hy]
      have hln := lay_next v j y hy
      obtain ⟨A', c', w', hr, ho2, hs2, on2⟩ := append_own (P := Try.prog) (wr.alloc (.cells #[.int .u8 ((y : Int) % 256)] 5)) (on.alloc _) 30 30 5 i0 _ 1 Try.underlying30 HI.out HZ0.out HZ1.out HZ2.out rfl _ j ((lay j v).map B) (ho.alloc _) (some ⟨wr.heap.size, 0, none⟩) 1 1 [.int .u8 ((y : Int) % 256)] (one_cell _ _ _) (one_ints _ _) (by unfold maxLen; omega) (by omega)
      rw [hln] at ho2
      have H1 := Lib.hid ho2
      have H2 := Lib.hid on2
      have HQ := Lib.hid hq
      clear ho on hq ho2 on2 hs2 hln hy
      go_wp2_with (at_builtin; refine wpList_append_run _ rfl (.tmp 12) (.tmp 15) 30 rfl _ _ rfl rfl _ _ hr ?_)
      go_roundw
      case rel => exact ⟨j + 1, y / 256, by omega, by go_num, by go_num, HQ.out, H1.out, H2.out⟩
      case measure => simp [intOf]; omega
    · obtain rfl : j = k := by omega
      have hl := ho.1
      have hA := own_slice ho
      obtain ⟨A', c', rfl, _, _⟩ := hA
      have H1 := Lib.hid ho
      have H2 := Lib.hid on
      clear ho on hl hy
      go_wp2
      go_ret
      exact ⟨.slice A' j c', rfl, madeB_own (lay_length j v) H1.out H2.out⟩
theorem ref2_Number (A : Option Addr) (n c : Nat) (l : List UInt8) (w : World) (h : Bs w A n l) (hn : n ≤ 8) :
    Calls Try.prog 70 #[.slice A n c] w fun e w' => e = .returned (.int .u64 (num l)) ∧ w = w' := by
  have hl := h.len
  by_cases h0 : n = 0
  · subst h0
    obtain rfl : l = [] := List.eq_nil_of_length_eq_zero hl
    clear h hl
    go_enter Try.func70, Try.ntmps70
    go_wp2
    go_loop [3, 4] (fun v i => v = .int .u64 0 ∧ i = .int .i64 (-1)) (fun _ _ => 0)
    case atStart => exact ⟨rfl, rfl⟩
    case round =>
      obtain ⟨rfl, rfl⟩ := hrel
      go_wp2
      go_ret
      exact ⟨rfl, rfl⟩
  · obtain ⟨b, off, rfl, hcell⟩ := h.at_ (by omega)
    have HX := Lib.hid hcell
    have HL := Lib.hid hl
    have hn0 : 0 < n := by omega
    clear h hcell hl h0
    go_enter Try.func70, Try.ntmps70
    go_wp2
    go_loop [3, 4] (fun v i => ∃ j y : Nat, j ≤ n ∧ i = .int .i64 ((j : Int) - 1) ∧ v = .int .u64 y ∧ y = num (l.drop j)) (fun _ i => (intOf i + 1).toNat)
    case atStart => exact ⟨n, 0, Nat.le_refl _, rfl, rfl, by rw [List.drop_eq_nil_of_le (by rw [HL.out]; omega)]; rfl⟩
    case round =>
      obtain ⟨j, y, hj, rfl, rfl, hy⟩ := hrel
      by_cases hlt : 0 < j
      · obtain ⟨i, rfl⟩ : ∃ i, j = i + 1 := ⟨j - 1, by omega⟩
        have hil : i < l.length := by rw [HL.out]; omega
        have hc1 := HX.out i hil
        have hs := num_cons_drop l i hil
        have hlen : (l.drop (i + 1)).length = n - (i + 1) := by rw [List.length_drop, HL.out]
        have hb := num_lt (l.drop (i + 1))
        have hb2 := num_lt (l.drop i)
        have hlen2 : (l.drop i).length = n - i := by rw [List.length_drop, HL.out]
        rw [hlen2] at hb2
        have hp := pow_le8 (n - i) (by omega)
        have hx := l[i].toNat_lt
        have hyb : y * 256 + l[i].toNat < 18446744073709551616 := by rw [hy, Nat.mul_comm, Nat.add_comm, ← hs]; omega
        have hN : y * 256 + l[i].toNat = num (l.drop i) := by rw [hs, hy]; omega
        generalize l[i].toNat = x at *
        have HN := Lib.hid hN
        clear hs hy hlen hb hb2 hlen2 hp hN
        go_wp2
        go_round
        case rel => exact ⟨i, y * 256 + x, by omega, by go_num, by go_num, HN.out⟩
        case measure => simp [intOf]
      · obtain rfl : j = 0 := by omega
        have HY := Lib.hid hy
        clear hy
        go_wp2
        go_ret
        exact ⟨ret_int (by rw [HY.out, List.drop_zero]), rfl⟩
/-- what was answered may be written over: nothing else turns -/
theorem law0_OverBytes {w0 : World} (A : Option Addr) (n c : Nat) (l : List UInt8) (w : World) (h : w.ownsRow w0.heap.size 5 1 (.slice A n c) n (l.map B)) (on : Only [] w0 w) (hn : n ≤ 1000000) :
    Calls Try.prog 87 #[.slice A n c] w fun e w' => e = .returned (.tuple #[]) ∧ Only [] w0 w' := by
  obtain ⟨i0, hi, hz0, hz1, hz2⟩ := info_parts Try.byteInfo
  have HI := Lib.hid hi
  have HZ0 := Lib.hid hz0
  have HZ1 := Lib.hid hz1
  have HZ2 := Lib.hid hz2
  have HO := Lib.hid h
  have HN := Lib.hid on
  clear hi hz0 hz1 hz2 h on
  go_enter Try.func87, Try.ntmps87
  go_wp2
  go_loopw [2] (fun i wr => ∃ (j : Nat) (l' : List UInt8), j ≤ n ∧ i = .int .i64 j ∧ wr.ownsRow w0.heap.size 5 1 (.slice A n c) n (l'.map B) ∧ Only [] w0 wr) (fun i _ => n - (intOf i).toNat)
  case atStart => exact ⟨0, l, Nat.zero_le _, rfl, HO.out, HN.out⟩
  case round =>
    obtain ⟨j, l', hj, rfl, ho, on⟩ := hrel
    by_cases hlt : j < n
    · obtain ⟨g, rfl, hbg, hgg, ho⟩ := OwnB.of ho (by omega)
      have hcell := ho.cell j hlt
      have hfr := ho.frozen j
      have hst := ho.set j (xor8 (l'.getD j 0) 255 (by omega))
      have on2 := on.setCell (p := ⟨g, j, none⟩) (.inr hbg) (.int .u8 (bits .xor .u8 ((l'.getD j 0).toNat : Int) ((255 : Nat) : Int)))
      rw [show ((255 : Nat) : Int) = 255 from rfl] at hst on2
      have H1 := Lib.hid hst
      have H2 := Lib.hid on2
      clear ho on hst on2
      generalize l'.set j (l'.getD j 0 ^^^ UInt8.ofNat 255) = l2 at *
      generalize (l'.getD j 0).toNat = x at *
      go_wp2
      go_roundw
      case rel => exact ⟨j + 1, l2, by omega, by go_num, H1.out, H2.out⟩
      case measure => simp [intOf]; omega
    · obtain rfl : j = n := by omega
      obtain ⟨A', c', w', hr, ho2, hs2, on2⟩ := append_own (P := Try.prog) (wr.alloc (.cells #[.int .u8 90] 5)) (on.alloc _) 30 30 5 i0 _ 1 Try.underlying30 HI.out HZ0.out HZ1.out HZ2.out rfl _ j _ (ho.alloc _) (some ⟨wr.heap.size, 0, none⟩) 1 1 [.int .u8 90] (one_cell _ _ _) (one_ints _ _) (by unfold maxLen; omega) (by omega)
      have H2 := Lib.hid on2
      clear ho on hs2 ho2 on2
      go_wp2_with (at_builtin; refine wpList_append_run _ rfl (.tmp 17) (.tmp 18) 30 rfl _ _ rfl rfl _ _ hr ?_)
      go_end0
      exact ⟨rfl, H2.out⟩
end Go.Proofs.Ytfafpggppbolkaa
/- The walks of the statements on code. -/
namespace Go.Proofs.Ytfafpggppbolkaa
open Go.RowKit Go.Proofs.FuMem Go.Proofs.FuCode
set_option maxRecDepth 100000
theorem law0_Num (x : Int) (w : World) : Calls Try.prog 47 #[.int .i64 x] w fun e w' => e = .returned (.int .i64 x) ∧ w = w' := by
  go_enter Try.func47, Try.ntmps47
  go_wp2
  go_ret
  exact ⟨rfl, rfl⟩
theorem Lent.only {w w' : World} {S : List Nat} {g : Nat} {l : List UInt8} (h : Lent w g l) (ho : Only S w w') (hs : g ∉ S) : Lent w' g l := (ho.block g h.lt hs).trans h
theorem put_digits : put [0, 0, 0] 1 2 258 = ([0, 2, 1], 0) := by decide +kernel
theorem get_digits : cget [0, 2, 1] 1 2 = (258, 0) := by decide +kernel
theorem three (w : World) (x y z : Int) (a b c : UInt8) (ha : x = a.toNat) (hb : y = b.toNat) (hc : z = c.toNat) : Bs (w.alloc (.cells #[.int .u8 x, .int .u8 y, .int .u8 z] 5)) (some ⟨w.heap.size, 0, none⟩) 3 [a, b, c] := by
  subst ha hb hc
  exact Sl.of_blk (Blk.new w 5 #[.int .u8 (a.toNat : Int), .int .u8 (b.toNat : Int), .int .u8 (c.toNat : Int)]) 0 rfl (by simp)
theorem three' (w : World) (g : Nat) (x y z : Int) (a b c : UInt8) (hg : g = w.heap.size) (ha : x = a.toNat) (hb : y = b.toNat) (hc : z = c.toNat) : Bs (w.alloc (.cells #[.int .u8 x, .int .u8 y, .int .u8 z] 5)) (some ⟨g, 0, none⟩) 3 [a, b, c] := by
  subst hg
  exact three w x y z a b c ha hb hc
theorem awake_put (w : World) : Calls Try.prog 95 #[.slice (some ⟨w.heap.size, 0, none⟩) 3 3, .int .i64 1, .int .i64 2, .int .u64 258] (w.alloc (.cells #[.int .u8 0, .int .u8 0, .int .u8 0] 5)) fun e w' => ∃ A c, e = .returned (.tuple #[.slice A 3 c, .int .i64 0]) ∧ Bs w' A 3 [0, 2, 1] ∧ Only [] w w' := by
  have hp := code_Put _ 3 3 _ 1 2 258 _ (three w 0 0 0 0 0 0 rfl rfl rfl) (by omega) (by omega) (by omega) (by omega)
  rw [put_digits] at hp
  refine hp.mono ?_
  rintro e w1 ⟨_, rfl, A1, c1, rfl, ho, on⟩
  exact ⟨A1, c1, rfl, bs_own ho, ((Only.refl _ _).alloc _).trans0 on⟩
theorem awake_get (w : World) : Calls Try.prog 67 #[.slice (some ⟨w.heap.size, 0, none⟩) 3 3, .int .i64 1, .int .i64 2] (w.alloc (.cells #[.int .u8 0, .int .u8 2, .int .u8 1] 5)) fun e w' => e = .returned (.tuple #[.int .u64 258, .int .i64 0]) ∧ (w.alloc (.cells #[.int .u8 0, .int .u8 2, .int .u8 1] 5)) = w' := by
  have hg := code_Get _ 3 3 _ 1 2 _ (three w 0 2 1 0 2 1 rfl rfl rfl) (by omega) (by omega) (by omega)
  rw [get_digits] at hg
  exact hg
end Go.Proofs.Ytfafpggppbolkaa
/- Law 3: an act, of both devices. -/
set_option maxRecDepth 100000
namespace Go.Proofs.Ytfafpggppbolkaa
open Go.RowKit Go.Proofs.FuMem Go.Proofs.FuNvm Go.Proofs.FuCode
/-- an act's fields, in a block of their own -/
def BoxAt (w : World) (g : Nat) (x : Deed) (s : Holds) : Prop := w.cell? ⟨g, 1, none⟩ = some (.int .i64 x.line) ∧ w.cell? ⟨g, 2, none⟩ = some (.int .i64 x.pos) ∧ w.cell? ⟨g, 3, none⟩ = some (.slice s.bA s.bn s.bc) ∧ w.cell? ⟨g, 4, none⟩ = some (.slice s.kA s.kn s.kc)
theorem is_only_pos' {w w' : World} {S : List Nat} {A : Option Addr} {n : Nat} {l : List UInt8} (h : Bs w A n l) (ho : Only S w w') (hs : 0 < n → ∀ b off s, A = some ⟨b, off, s⟩ → b ∉ S) : Bs w' A n l := by
  rcases Nat.eq_zero_or_pos n with rfl | hp
  · have := h.len
    obtain rfl : l = [] := List.length_eq_zero_iff.1 this
    exact Bs.nil _ _
  · exact h.only ho (hs hp)
/-- what was answered is written over: its block alone, and what is new -/
theorem law0_OverInts2 (S : List Nat) (base : Nat) (A : Option Addr) (n c : Nat) (l : List Int) (w : World) (h : w.ownsRow base 3 1 (.slice A n c) n (l.map (.int .i64))) (hbase : base ≤ w.heap.size) (hS : ∀ k, (Value.slice A n c).ownBlock = some k → k ∈ S) (hn : n ≤ 1000000) :
    Calls Try.prog 84 #[.slice A n c] w fun e w' => e = .returned (.tuple #[]) ∧ Only S w w' := by
  obtain ⟨i0, hi, hz0, hz1, hz2⟩ := info_parts Try.intInfo
  have HI := Lib.hid hi
  have HZ0 := Lib.hid hz0
  have HZ1 := Lib.hid hz1
  have HZ2 := Lib.hid hz2
  have HO := Lib.hid h
  have HS := Lib.hid hS
  clear hi hz0 hz1 hz2 h hS
  go_enter Try.func84, Try.ntmps84
  go_wp2
  go_loopw [2] (fun i wr => ∃ (j : Nat) (l' : List Int), j ≤ n ∧ i = .int .i64 j ∧ wr.ownsRow base 3 1 (.slice A n c) n (l'.map (.int .i64)) ∧ Only S w wr) (fun i _ => n - (intOf i).toNat)
  case atStart => exact ⟨0, l, Nat.zero_le _, rfl, HO.out, Only.refl _ _⟩
  case round =>
    obtain ⟨j, l', hj, rfl, ho, on⟩ := hrel
    by_cases hlt : j < n
    · obtain ⟨g, rfl, hbg, hgg, ho⟩ := OwnI.of ho (by omega)
      have hcell := ho.cell j hlt
      have hfr := ho.frozen j
      have hst := ho.set j (-999)
      have on2 := on.setCell (p := ⟨g, j, none⟩) (.inl (HS.out g rfl)) (.int .i64 (-999))
      have H1 := Lib.hid hst
      have H2 := Lib.hid on2
      clear ho on hst on2
      generalize l'.set j (-999) = l2 at *
      generalize l'.getD j 0 = x at *
      go_wp2
      go_roundw
      case rel => exact ⟨j + 1, l2, by omega, by go_num, H1.out, H2.out⟩
      case measure => simp [intOf]; omega
    · obtain rfl : j = n := by omega
      obtain ⟨v', w', hr, ho2, hg2, _⟩ := run_append_sl (P := Try.prog) (wr.alloc (.cells #[.int .i64 (-998)] 3)) base 34 34 3 i0 _ 8 Try.underlying34 HI.out HZ0.out HZ1.out HZ2.out rfl _ j _ (ho.alloc _) (some ⟨wr.heap.size, 0, none⟩) 1 1 [.int .i64 (-998)] (cell_new1 _ _ _) (ints_new1 _ _) (by unfold maxLen; omega) (by omega) (by have := on.size; simp; omega)
      have on2 : Only S w w' := (on.alloc _).trans (Only.of_grown hg2 (S := S) (fun k hk => .inl (HS.out k hk))) (fun b hb => .inl hb)
      have H2 := Lib.hid on2
      clear ho on ho2 hg2 on2
      go_wp2_with (at_builtin; refine wpList_append_run _ rfl (.tmp 12) (.tmp 13) 34 rfl _ _ rfl rfl _ _ hr ?_)
      go_end0
      exact ⟨rfl, H2.out⟩
set_option maxHeartbeats 16000000 in
theorem law3_done (g cb cap rg rb rcap : Nat) (D : Dev) (x : Deed) (s : Holds) (w0 w : World) (hx : DeedOk w0 x s) (on : Only [] w0 w) (hg : w0.heap.size ≤ g) (hcb : w0.heap.size ≤ cb) (hrg : w0.heap.size ≤ rg) (hrb : w0.heap.size ≤ rb)
    (hd : DevAt w g cb cap D) (hr : RefAt w rg rb rcap D) (hn1 : g ≠ rg ∧ g ≠ rb) (hn2 : cb ≠ rg ∧ cb ≠ rb) (hb : s.bn ≤ 100) (hk : s.kn ≤ 100) :
    Calls Try.prog 52 #[.pointer (some ⟨g, 0, none⟩), .pointer (some ⟨rg, 0, none⟩), .agg (deedV x s).toArray] w fun e w' => e = .returned (.bool true) ∧ DevAt w' g cb cap (playD D x) ∧ RefAt w' rg rb rcap (playD D x) ∧ Only [g, cb, rg, rb] w w' := by
  have hbs := hx.bs.only0 on
  have his := hx.is.only0 on
  have hsb : 0 < s.bn → ∀ b off t, s.bA = some ⟨b, off, t⟩ → b < w0.heap.size := fun hp => sl_blocks hx.bs hp
  have hsk : 0 < s.kn → ∀ b off t, s.kA = some ⟨b, off, t⟩ → b < w0.heap.size := fun hp => sl_blocks hx.is hp
  have hk3 := hx.k3
  obtain ⟨kind, line, pos, bl, keep⟩ := x
  obtain ⟨bA, bn, bc, kA, kn, kc⟩ := s
  simp only at hbs his hsb hsk hk3 hb hk
  unfold playD deedV
  simp only
  clear hx on
  have hlt1 := hd.lt1
  have hlt2 := hd.lt2
  have hlt3 := hr.lt1
  have hlt4 := hr.lt2
  have o1 : Only [] w (w.alloc (.cells #[.int .i64 kind, .int .i64 line, .int .i64 pos, .slice bA bn bc, .slice kA kn kc] 36)) := (Only.refl _ _).alloc _
  have HBX := Lib.hid (Blk.new w 36 #[.int .i64 kind, .int .i64 line, .int .i64 pos, .slice bA bn bc, .slice kA kn kc])
  have HD := Lib.hid (hd.only0 o1)
  have HR := Lib.hid (hr.only0 o1)
  have HB := Lib.hid (hbs.only0 o1)
  have HI := Lib.hid (his.only0 o1)
  have HO := Lib.hid o1
  have HSB := Lib.hid hsb
  have HSK := Lib.hid hsk
  clear hd hr hbs his o1 hsb hsk
  have hne1 : w.heap.size ≠ g := by omega
  have hne2 : w.heap.size ≠ cb := by omega
  have hne3 : w.heap.size ≠ rg := by omega
  have hne4 : w.heap.size ≠ rb := by omega
  by_cases h0 : kind = 0
  · subst h0
    rw [if_pos rfl]
    go_enter Try.func52, Try.ntmps52
    go_wp2_with fail
    refine (law0_LendBytes _ _ _ bl _ HB.out (by omega)).mono ?_
    rintro e w2 ⟨rfl, l2, o2⟩
    have l2' : Lent w2 (w.heap.size + 1) bl := by simpa using l2
    have L2 := Lib.hid l2'
    have HBX2 := Lib.hid (HBX.out.only o2 (by simp))
    have D2 := Lib.hid (HD.out.only0 o2)
    have R2 := Lib.hid (HR.out.only0 o2)
    have B2 := Lib.hid (HB.out.only0 o2)
    have O2 := Lib.hid (HO.out.trans0 o2)
    have hs2 := o2.size
    clear l2 l2' o2
    have hll : bl.length = bn := HB.out.len
    have hlb : Bs w2 (some ⟨w.heap.size + 1, 0, none⟩) bn bl := Sl.of_blk L2.out 0 (by simp [← hll]) (by simp [← hll])
    have HLB := Lib.hid hlb
    have y1 : w2.cell? ⟨w.heap.size, 1, none⟩ = some (.int .i64 line) := HBX2.out.cell 1
    have y2 : w2.cell? ⟨w.heap.size, 2, none⟩ = some (.int .i64 pos) := HBX2.out.cell 2
    clear hll hlb
    go_wp2_with fail
    refine (nvm_Store_any g cb cap D line pos _ bn (bn + 5) bl w2 D2.out HLB.out (by unfold maxLen; omega)).mono ?_
    rintro e w3 ⟨rfl, d3, o3⟩
    have e1 : w.heap.size ∉ [g, cb] := by simp; omega
    have HBX3 := Lib.hid (HBX2.out.only o3 e1)
    have D3 := Lib.hid d3
    have R3 := Lib.hid (IsDev.only R2.out o3 (by simp; omega) (by simp; omega))
    have B3 := Lib.hid (is_only_pos' B2.out o3 (fun hp b off t e hb => by have := HSB.out hp b off t e; simp at hb; omega))
    have L3 := Lib.hid (Blk.only L2.out o3 (by simp; omega))
    have O3 := Lib.hid ((O2.out.mono (T := [g, cb, rg, rb]) (by simp)).trans o3 (fun b hb => .inl (by simp at hb ⊢; omega)))
    clear d3 o3 e1
    go_wp2_with fail
    have hbox : BoxAt w3 w.heap.size ⟨0, line, pos, bl, keep⟩ ⟨bA, bn, bc, kA, kn, kc⟩ := ⟨HBX3.out.cell 1, HBX3.out.cell 2, HBX3.out.cell 3, HBX3.out.cell 4⟩
    unfold BoxAt at hbox
    simp only at hbox
    obtain ⟨x1, x2, x3, x4⟩ := hbox
    have dr : Only [] w3 w3.drew := (Only.refl _ _).drew
    have RD := Lib.hid (R3.out.only0 dr)
    have BD := Lib.hid (Bs.only0 B3.out dr)
    have DD := Lib.hid (D3.out.only0 dr)
    have LD := Lib.hid (Blk.only L3.out dr (by simp))
    have OD := Lib.hid (O3.out.trans0 dr)
    have HXD := Lib.hid (HBX3.out.only dr (by simp))
    have hlen3 := O3.out.size
    clear dr HBX3
    go_region_held3 (fun w' => w'.cell? ⟨w.heap.size, 1, none⟩ = some (.int .i64 line) ∧ w'.cell? ⟨w.heap.size, 2, none⟩ = some (.int .i64 pos) ∧ w'.cell? ⟨w.heap.size, 3, none⟩ = some (.slice bA bn bc)) (go_keep)
      (first
        | (go_at_call 47; refine (law0_Num _ _).mono ?_; rintro e w' ⟨rfl, rfl⟩)
        | (go_at_call 59; refine (ref3_Store_any rg rb rcap D line pos bA bn bc bl _ RD.out BD.out (by unfold maxLen; omega) (fun hp b off t e => by have := HSB.out hp b off t e; omega) hk3).mono ?_; rintro e w6 ⟨rfl, r6, o6⟩; have z1 : w6.cell? ⟨w.heap.size, 1, none⟩ = some (.int .i64 line) := (HXD.out.only o6 (by simp; omega)).cell 1; have z2 : w6.cell? ⟨w.heap.size, 2, none⟩ = some (.int .i64 pos) := (HXD.out.only o6 (by simp; omega)).cell 2; have z3 : w6.cell? ⟨w.heap.size, 3, none⟩ = some (.slice bA bn bc) := (HXD.out.only o6 (by simp; omega)).cell 3; have R6 := Lib.hid r6; have D6 := Lib.hid (IsDev.only DD.out o6 (by simp; omega) (by simp; omega)); have L6 := Lib.hid (Blk.only LD.out o6 (by simp; omega)); have B6 := Lib.hid (is_only_pos' BD.out o6 (fun hp b off t e hb => by have := HSB.out hp b off t e; simp at hb; omega)); have O6 := Lib.hid (OD.out.trans o6 (T := [rg, rb]) (S := [g, cb, rg, rb]) (by simp)); clear r6 o6)
        | (go_at_call 34; refine (law0_KeptBytes bA bn bc bl (w.heap.size + 1) _ L6.out B6.out (by omega)).mono ?_; rintro e w' ⟨rfl, rfl⟩))
    all_goals (go_wp2; go_ret; exact ⟨rfl, D6.out, R6.out, O6.out⟩)
  by_cases h1 : kind = 1
  · subst h1
    rw [if_neg (by decide), if_pos rfl]
    have x1 : (w.alloc (.cells #[.int .i64 1, .int .i64 line, .int .i64 pos, .slice bA bn bc, .slice kA kn kc] 36)).cell? ⟨w.heap.size, 1, none⟩ = some (.int .i64 line) := HBX.out.cell 1
    have dr : Only [] (w.alloc (.cells #[.int .i64 1, .int .i64 line, .int .i64 pos, .slice bA bn bc, .slice kA kn kc] 36)) (w.alloc (.cells #[.int .i64 1, .int .i64 line, .int .i64 pos, .slice bA bn bc, .slice kA kn kc] 36)).drew := (Only.refl _ _).drew
    have DD := Lib.hid (HD.out.only0 dr)
    have RD := Lib.hid (HR.out.only0 dr)
    have OD := Lib.hid (HO.out.trans0 dr)
    have HXD := Lib.hid (HBX.out.only dr (by simp))
    clear dr HD HR HO HBX HI HB
    go_enter Try.func52, Try.ntmps52
    go_wp2_with fail
    generalize w.alloc (.cells #[.int .i64 1, .int .i64 line, .int .i64 pos, .slice bA bn bc, .slice kA kn kc] 36) = w1 at *
    go_region_held3 (fun w' => w'.cell? ⟨w.heap.size, 1, none⟩ = some (.int .i64 line)) (go_keep)
      (first
        | (go_at_call 47; refine (law0_Num _ _).mono ?_; rintro e w' ⟨rfl, rfl⟩)
        | (go_at_call 20; refine (nvm_Flush_any g cb cap D line _ DD.out).mono ?_; rintro e w5 ⟨rfl, r5, o5⟩; have z1 : w5.cell? ⟨w.heap.size, 1, none⟩ = some (.int .i64 line) := (HXD.out.only o5 (by simp; omega)).cell 1; have D5 := Lib.hid r5; have HX5 := Lib.hid (HXD.out.only o5 (by simp; omega)); have R5 := Lib.hid (IsDev.only RD.out o5 (by simp; omega) (by simp; omega)); have O5 := Lib.hid ((OD.out.mono (T := [g, cb, rg, rb]) (by simp)).trans o5 (fun b hb => .inl (by simp at hb ⊢; omega))); clear r5 o5)
        | (go_at_call 79; refine (ref3_Flush_any rg rb rcap D line _ R5.out).mono ?_; rintro e w6 ⟨rfl, r6, o6⟩; have z2 : w6.cell? ⟨w.heap.size, 1, none⟩ = some (.int .i64 line) := (HX5.out.only o6 (by simp; omega)).cell 1; have R6 := Lib.hid r6; have D6 := Lib.hid (IsDev.only D5.out o6 (by simp; omega) (by simp; omega)); have O6 := Lib.hid (O5.out.trans o6 (fun b hb => .inl (by simp at hb ⊢; omega))); clear r6 o6))
    all_goals (go_wp2; go_ret; exact ⟨rfl, D6.out, R6.out, O6.out⟩)
  by_cases h2 : kind = 2
  · subst h2
    rw [if_neg (by decide), if_neg (by decide), if_pos rfl]
    clear HBX HB HI HSB HSK
    go_enter Try.func52, Try.ntmps52
    go_wp2_with fail
    refine (ref3_Fence rg rb rcap D _ HR.out).mono ?_
    rintro e w5 ⟨rfl, r5, o5⟩
    have R5 := Lib.hid r5
    have D5 := Lib.hid (IsDev.only HD.out o5 (by simp; omega) (by simp; omega))
    have O5 := Lib.hid ((HO.out.mono (T := [g, cb, rg, rb]) (by simp)).trans o5 (fun b hb => .inl (by simp at hb ⊢; omega)))
    clear r5 o5
    go_wp2_with fail
    refine (nvm_Fence g cb cap D _ D5.out).mono ?_
    rintro e w6 ⟨rfl, d6, o6⟩
    have D6 := Lib.hid d6
    have R6 := Lib.hid (IsDev.only R5.out o6 (by simp; omega) (by simp; omega))
    have O6 := Lib.hid (O5.out.trans o6 (fun b hb => .inl (by simp at hb ⊢; omega)))
    clear d6 o6
    go_wp2
    go_ret
    exact ⟨rfl, D6.out, R6.out, O6.out⟩
  by_cases h3 : kind = 3
  · subst h3
    rw [if_neg (by decide), if_neg (by decide), if_neg (by decide), if_pos rfl]
    have x1 : (w.alloc (.cells #[.int .i64 3, .int .i64 line, .int .i64 pos, .slice bA bn bc, .slice kA kn kc] 36)).cell? ⟨w.heap.size, 1, none⟩ = some (.int .i64 line) := HBX.out.cell 1
    have dr : Only [] (w.alloc (.cells #[.int .i64 3, .int .i64 line, .int .i64 pos, .slice bA bn bc, .slice kA kn kc] 36)) (w.alloc (.cells #[.int .i64 3, .int .i64 line, .int .i64 pos, .slice bA bn bc, .slice kA kn kc] 36)).drew := (Only.refl _ _).drew
    have DD := Lib.hid (HD.out.only0 dr)
    have RD := Lib.hid (HR.out.only0 dr)
    have OD := Lib.hid (HO.out.trans0 dr)
    have HXD := Lib.hid (HBX.out.only dr (by simp))
    clear dr HD HR HO HBX HI HB
    go_enter Try.func52, Try.ntmps52
    go_wp2_with fail
    generalize w.alloc (.cells #[.int .i64 3, .int .i64 line, .int .i64 pos, .slice bA bn bc, .slice kA kn kc] 36) = w1 at *
    go_region_held3 (fun w' => w'.cell? ⟨w.heap.size, 1, none⟩ = some (.int .i64 line)) (go_keep)
      (first
        | (go_at_call 47; refine (law0_Num _ _).mono ?_; rintro e w' ⟨rfl, rfl⟩)
        | (go_at_call 26; refine (nvm_Back_any g cb cap D line _ DD.out).mono ?_; rintro e w5 ⟨rfl, r5, o5⟩; have z1 : w5.cell? ⟨w.heap.size, 1, none⟩ = some (.int .i64 line) := (HXD.out.only o5 (by simp; omega)).cell 1; have D5 := Lib.hid r5; have HX5 := Lib.hid (HXD.out.only o5 (by simp; omega)); have R5 := Lib.hid (IsDev.only RD.out o5 (by simp; omega) (by simp; omega)); have O5 := Lib.hid ((OD.out.mono (T := [g, cb, rg, rb]) (by simp)).trans o5 (fun b hb => .inl (by simp at hb ⊢; omega))); clear r5 o5)
        | (go_at_call 81; refine (ref3_Back_any rg rb rcap D line _ R5.out).mono ?_; rintro e w6 ⟨rfl, r6, o6⟩; have z2 : w6.cell? ⟨w.heap.size, 1, none⟩ = some (.int .i64 line) := (HX5.out.only o6 (by simp; omega)).cell 1; have R6 := Lib.hid r6; have D6 := Lib.hid (IsDev.only D5.out o6 (by simp; omega) (by simp; omega)); have O6 := Lib.hid (O5.out.trans o6 (fun b hb => .inl (by simp at hb ⊢; omega))); clear r6 o6))
    all_goals (go_wp2; go_ret; exact ⟨rfl, D6.out, R6.out, O6.out⟩)
  by_cases h4 : kind = 4
  · subst h4
    rw [if_neg (by decide), if_neg (by decide), if_neg (by decide), if_neg (by decide), if_pos rfl]
    go_enter Try.func52, Try.ntmps52
    go_wp2_with fail
    refine (law0_LendInts _ _ _ keep _ HI.out (by omega)).mono ?_
    rintro e w2 ⟨rfl, l2, o2⟩
    have l2' : LentI w2 (w.heap.size + 1) keep := by simpa using l2
    have L2 := Lib.hid l2'
    have HBX2 := Lib.hid (HBX.out.only o2 (by simp))
    have D2 := Lib.hid (HD.out.only0 o2)
    have R2 := Lib.hid (HR.out.only0 o2)
    have I2 := Lib.hid (Is.only0 HI.out o2)
    have O2 := Lib.hid (HO.out.trans0 o2)
    have hs2 := o2.size
    have hlt5 := Blk.lt L2.out
    have KL := Lib.hid (Is.len HI.out)
    have LB := Lib.hid (LentI.is L2.out KL.out)
    clear l2 l2' o2 HBX HD HR HI HO HB
    go_wp2_with fail
    refine (nvm_Cut g cb cap D _ kn (kn + 3) keep w2 D2.out LB.out (by omega) (fun _ b off t e => by cases e; omega)).mono ?_
    rintro e w3 ⟨A3, c3, rfl, q3, d3, o3⟩
    have hll := lostTo_length keep D.lines D.lines.length
    have hfew := D2.out.few
    have q3s := World.ownsRow.lt q3
    have Q3 := Lib.hid q3
    have hs3 := o3.size
    have HQ := Lib.hid (fun k (e : (Value.slice A3 (lostTo keep D.lines D.lines.length).length c3).ownBlock = some k) => q3s k e)
    have HBX3 := Lib.hid (HBX2.out.only o3 (by simp; omega))
    have D3 := Lib.hid d3
    have R3 := Lib.hid (IsDev.only R2.out o3 (by simp; omega) (by simp; omega))
    have I3 := Lib.hid (is_only_pos I2.out o3 (fun hp b off t e hb => by have := HSK.out hp b off t e; simp at hb; omega))
    have L3 := Lib.hid (Blk.only L2.out o3 (by simp; omega))
    have O3 := Lib.hid ((O2.out.mono (T := [g, cb, rg, rb]) (by simp)).trans o3 (fun b hb => .inl (by simp at hb ⊢; omega)))
    have z4 : w3.cell? ⟨w.heap.size, 4, none⟩ = some (.slice kA kn kc) := HBX3.out.cell 4
    clear q3 q3s d3 o3
    go_wp2_with fail
    refine (ref3_Cut rg rb rcap D kA kn kc keep w3 R3.out I3.out (by omega) (fun hp b off t e => by have := HSK.out hp b off t e; omega)).mono ?_
    rintro e w4 ⟨A4, c4, rfl, q4, r4, o4⟩
    have hs4 := o4.size
    have J3 := Lib.hid (own_only Q3.out o4 (fun k hk => by have := HQ.out k hk; simp; omega))
    have J4 := Lib.hid q4
    have HBX4 := Lib.hid (HBX3.out.only o4 (by simp; omega))
    have R4 := Lib.hid r4
    have D4 := Lib.hid (IsDev.only D3.out o4 (by simp; omega) (by simp; omega))
    have I4 := Lib.hid (is_only_pos I3.out o4 (fun hp b off t e hb => by have := HSK.out hp b off t e; simp at hb; omega))
    have L4 := Lib.hid (Blk.only L3.out o4 (by simp; omega))
    have O4 := Lib.hid (O3.out.trans o4 (fun b hb => .inl (by simp at hb ⊢; omega)))
    clear q4 r4 o4 z4
    go_wp2_with fail
    refine (law0_SameInts _ _ _ _ _ _ _ _ _ (is_own J3.out) (is_own J4.out) (by omega) (by omega)).mono ?_
    rintro e w5 ⟨rfl, o5⟩
    rw [beq_self_eq_true]
    have J5 := Lib.hid (own_only J3.out o5 (by simp))
    have HBX5 := Lib.hid (HBX4.out.only o5 (by simp))
    have D5 := Lib.hid (D4.out.only0 o5)
    have R5 := Lib.hid (R4.out.only0 o5)
    have I5 := Lib.hid (Is.only0 I4.out o5)
    have L5 := Lib.hid (Blk.only L4.out o5 (by simp))
    have O5 := Lib.hid (O4.out.trans0 o5)
    have hs5 := o5.size
    have z5 : w5.cell? ⟨w.heap.size, 4, none⟩ = some (.slice kA kn kc) := HBX5.out.cell 4
    clear o5
    go_wp2_with fail
    refine (law0_KeptInts kA kn kc keep (w.heap.size + 1) w5 L5.out I5.out (by omega)).mono ?_
    rintro e w6 ⟨rfl, o6⟩
    have J6 := Lib.hid (own_only J5.out o6 (by simp))
    have D6 := Lib.hid (D5.out.only0 o6)
    have R6 := Lib.hid (R5.out.only0 o6)
    have O6 := Lib.hid (O5.out.trans0 o6)
    have hs6 := o6.size
    clear o6
    obtain ⟨S, hS1, hS2⟩ : ∃ S : List Nat, (∀ k, (Value.slice A3 (lostTo keep D.lines D.lines.length).length c3).ownBlock = some k → k ∈ S) ∧ ∀ k ∈ S, w2.heap.size ≤ k := by
      refine ⟨((Value.slice A3 (lostTo keep D.lines D.lines.length).length c3).ownBlock).toList, fun k hk => by rw [hk]; simp, fun k hk => ?_⟩
      have := HQ.out k (by simpa using hk)
      omega
    have HS1 := Lib.hid hS1
    have HS2 := Lib.hid hS2
    clear hS1 hS2
    go_wp2_with fail
    refine (law0_OverInts2 S w2.heap.size _ _ _ _ w6 J6.out (by omega) HS1.out (by omega)).mono ?_
    rintro e w7 ⟨rfl, o7⟩
    have D7 := Lib.hid (IsDev.only D6.out o7 (fun h => by have := HS2.out _ h; omega) (fun h => by have := HS2.out _ h; omega))
    have R7 := Lib.hid (IsDev.only R6.out o7 (fun h => by have := HS2.out _ h; omega) (fun h => by have := HS2.out _ h; omega))
    have hs20 := O2.out.size
    have O7 := Lib.hid (O6.out.trans o7 (fun b hb => .inr (by have := HS2.out _ hb; omega)))
    clear o7
    go_wp2
    go_ret
    exact ⟨rfl, D7.out, R7.out, O7.out⟩
  · rw [if_neg h0, if_neg h1, if_neg h2, if_neg h3, if_neg h4]
    have q0 : (kind == 0) = false := by simpa using h0
    have q1 : (kind == 1) = false := by simpa using h1
    have q2 : (kind == 2) = false := by simpa using h2
    have q3 : (kind == 3) = false := by simpa using h3
    have q4 : (kind == 4) = false := by simpa using h4
    have HO2 := Lib.hid (HO.out.mono (T := [g, cb, rg, rb]) (by simp))
    clear h0 h1 h2 h3 h4 HB HI HBX HSB HSK HO
    go_enter Try.func52, Try.ntmps52
    go_wp2
    go_ret
    exact ⟨rfl, HD.out, HR.out, HO2.out⟩
end Go.Proofs.Ytfafpggppbolkaa
/- The walk of the statement NvmCuts. -/
set_option maxRecDepth 100000
namespace Go.Proofs.Ytfafpggppbolkaa
open Go.RowKit Go.Proofs.FuMem Go.Proofs.FuNvm Go.Proofs.FuCode
theorem Try.bytesInfo : (Try.prog.info? 30).map (fun i => (i.zero, i.size, i.bytes)) = some (some (.slice none 0 0), 1, 24) := by kernel_rfl
/-- slices of bytes of the call's own, in blocks from m on -/
def Rows (w : World) (m : Nat) (vs : List Value) (ls : List (List UInt8)) : Prop :=
  vs.length = ls.length ∧ ∀ (j : Nat) (v : Value) (l : List UInt8), vs[j]? = some v → ls[j]? = some l → w.ownsRow m 5 1 v l.length (l.map B)
theorem Rows.only {w w' : World} {m : Nat} {vs : List Value} {ls : List (List UInt8)} {S : List Nat} (h : Rows w m vs ls) (o : Only S w w') (hs : ∀ b ∈ S, b < m) : Rows w' m vs ls :=
  ⟨h.1, fun j v l h1 h2 => own_only (h.2 j v l h1 h2) o (fun k hk hm => by have := World.ownsRow.lt (h.2 j v l h1 h2) k hk; have := hs k hm; omega)⟩
theorem own_grown {w w' : World} {base : Nat} {e : TypeId} {size : Nat} {v : Value} {n : Nat} {xs : List Value} {row : Option Nat} (h : w.ownsRow base e size v n xs) (ho : w.grownBy w' row) (hs : ∀ k, v.ownBlock = some k → row ≠ some k) : w'.ownsRow base e size v n xs := by
  refine ⟨h.1, ?_⟩
  rcases h.2 with h0 | ⟨g, cap, cur, rfl, hbg, hg, hnc, hcm, hcs, htake⟩
  · exact .inl h0
  · exact .inr ⟨g, cap, cur, rfl, hbg, (ho.block g (Array.getElem?_eq_some_iff.1 hg).1 (fun e => hs g rfl e.symm)).trans hg, hnc, hcm, hcs, htake⟩
theorem own_types {w : World} {b1 b2 : Nat} {e1 e2 : TypeId} {s1 s2 : Nat} {v u : Value} {n m : Nat} {xs ys : List Value} (h : w.ownsRow b1 e1 s1 v n xs) (k : w.ownsRow b2 e2 s2 u m ys) (hne : e1 ≠ e2) : ∀ g, v.ownBlock = some g → u.ownBlock ≠ some g := by
  intro g hv hu
  rcases h.2 with ⟨rfl, _⟩ | ⟨g1, _, cur1, rfl, _, hg1, _⟩
  · simp [Value.ownBlock] at hv
  · rcases k.2 with ⟨rfl, _⟩ | ⟨g2, _, cur2, rfl, _, hg2, _⟩
    · simp [Value.ownBlock] at hu
    · have a1 : g1 = g := by simpa [Value.ownBlock] using hv
      have a2 : g2 = g := by simpa [Value.ownBlock] using hu
      subst a1
      subst a2
      rw [hg1] at hg2
      injection hg2 with hg2
      injection hg2 with _ ht
      exact hne ht
theorem Rows.grown {w w' : World} {m : Nat} {vs : List Value} {ls : List (List UInt8)} (h : Rows w m vs ls) {b2 : Nat} {e2 : TypeId} {u : Value} {n : Nat} {ys : List Value} (k : w.ownsRow b2 e2 1 u n ys) (hne : 5 ≠ e2) (ho : w.grownBy w' u.ownBlock) : Rows w' m vs ls :=
  ⟨h.1, fun j v l h1 h2 => own_grown (h.2 j v l h1 h2) ho (own_types (h.2 j v l h1 h2) k hne)⟩
theorem Rows.snoc {w : World} {m : Nat} {vs : List Value} {ls : List (List UInt8)} (h : Rows w m vs ls) {v : Value} {l : List UInt8} (hb : w.ownsRow m 5 1 v l.length (l.map B)) : Rows w m (vs ++ [v]) (ls ++ [l]) := by
  have hl := h.1
  refine ⟨by simp [hl], fun j u k h1 h2 => ?_⟩
  by_cases hj : j < vs.length
  · rw [List.getElem?_append_left hj] at h1
    rw [List.getElem?_append_left (by omega)] at h2
    exact h.2 j u k h1 h2
  · have hj2 : j < (vs ++ [v]).length := (List.getElem?_eq_some_iff.1 h1).1
    obtain rfl : j = vs.length := by simp at hj2; omega
    rw [List.getElem?_append_right (Nat.le_refl _)] at h1
    rw [hl, List.getElem?_append_right (Nat.le_refl _)] at h2
    simp at h1 h2
    subst h1
    subst h2
    exact hb
theorem append_ownG {P : Program} (w : World) {w0 : World} {T : List Nat} (on : Only T w0 w) (t ty e : TypeId) (i : TypeInfo) (z : Value) (bytes : Nat) (ht : P.underlying t = some (.slice e)) (hi : P.info? e = some i) (hz : i.zero = some z)
    (hsize : i.size = 1) (hby : i.bytes = bytes) (hzs : z.cells.size = 1)
    (v : Value) (n : Nat) (xs : List Value) (hown : w.ownsRow w0.heap.size e 1 v n xs)
    (A : Option Addr) (m c : Nat) (news : List Value) (hr : Sl w A m news) (h1 : ∀ u ∈ news, u.oneCell' = true)
    (h63 : n + m ≤ maxLen) (hbytes : (n + m) * bytes ≤ 140737488355328) :
    ∃ A' c' w', (Builtin.append_ #[t, t] ty #[v, .slice A m c]).run P w = .ok (.slice A' (n + m) c') w' ∧ w'.ownsRow w0.heap.size e 1 (.slice A' (n + m) c') (n + m) (xs ++ news) ∧
      Only T w0 w' ∧ w.grownBy w' v.ownBlock := by
  obtain ⟨v', w', hrun, h2, h3, _⟩ := run_append_sl (P := P) w w0.heap.size t ty e i z bytes ht hi hz hsize hby hzs v n xs hown A m c news hr h1 h63 hbytes on.size
  obtain ⟨A', c', rfl, _, _⟩ := own_slice h2
  have hb : ∀ k, k < w0.heap.size → w'.heap[k]? = w.heap[k]? := fun k hk => h3.block k (Nat.lt_of_lt_of_le hk on.size) (fun e => by have := hown.lt k e.symm; omega)
  exact ⟨A', c', w', hrun, h2, ⟨h3.os.trans on.os, h3.tape.trans on.tape, h3.output.trans on.output, Nat.le_trans on.size h3.size, fun k hk hn => (hb k hk).trans (on.block k hk hn)⟩, h3⟩
theorem madeB_own2 {w w' : World} {l : List UInt8} {v : Value} (h : MadeB w l v w') : ∃ A c, v = .slice A l.length c ∧ w'.ownsRow w.heap.size 5 1 (.slice A l.length c) l.length (l.map B) ∧ Only [] w w' := by
  obtain ⟨A, c, rfl, h, o⟩ := h
  exact ⟨A, c, rfl, h, o⟩
def wantOf (keep : List Int) (i : Nat) (x : Line) : List UInt8 := if (i : Int) ∈ keep then x.now else x.kept
def wants (keep : List Int) (L : List Line) : List (List UInt8) := L.mapIdx (wantOf keep)
theorem wants_take {keep : List Int} {L : List Line} {k : Nat} {x : Line} (h : L[k]? = some x) : (wants keep L).take (k + 1) = (wants keep L).take k ++ [wantOf keep k x] := by
  unfold wants
  have hk := (List.getElem?_eq_some_iff.1 h).1
  rw [List.take_succ_eq_append_getElem (by simpa using hk), List.getElem_mapIdx, (List.getElem?_eq_some_iff.1 h).2]
theorem wants_get {keep : List Int} {L : List Line} {k : Nat} {x : Line} (h : L[k]? = some x) : (wants keep L)[k]? = some (wantOf keep k x) := by
  unfold wants
  rw [List.getElem?_mapIdx, h]
  rfl
theorem cutL_now (keep : List Int) (k : Nat) (x : Line) : (cutL keep k x).now = wantOf keep k x := by
  unfold cutL wantOf
  split
  · rename_i h
    rw [if_pos h.2]
  · rename_i h
    by_cases hk : (k : Int) ∈ keep
    · rw [if_pos hk]
      by_cases he : x.now = x.kept
      · exact he.symm
      · exact absurd ⟨by simpa using he, hk⟩ h
    · rw [if_neg hk]
theorem cutL_kept (keep : List Int) (k : Nat) (x : Line) : (cutL keep k x).kept = (cutL keep k x).now := by
  unfold cutL
  split <;> rfl
theorem cutL_sent (keep : List Int) (k : Nat) (x : Line) : (cutL keep k x).sent = false := by
  unfold cutL
  split <;> rfl
theorem those_none {p : Line → Bool} {L : List Line} (h : ∀ x ∈ L, p x = false) (m : Nat) : those p L m = [] := by
  unfold those
  rw [List.map_eq_nil_iff, List.filter_eq_nil_iff]
  intro j _
  cases hq : L[j]? with
  | none => simp
  | some x => simp [h x (List.mem_of_getElem? hq)]
theorem cut_loose (D : Dev) (keep : List Int) (m : Nat) : those (fun x => x.now != x.kept) (cutD D keep).lines m = [] :=
  those_none (fun x hx => by
    unfold cutD at hx
    obtain ⟨i, hi, rfl⟩ := List.mem_mapIdx.1 hx
    rw [cutL_kept]
    simp) m
theorem cut_sent (D : Dev) (keep : List Int) (m : Nat) : those (fun x => x.sent) (cutD D keep).lines m = [] :=
  those_none (fun x hx => by
    unfold cutD at hx
    obtain ⟨i, hi, rfl⟩ := List.mem_mapIdx.1 hx
    exact cutL_sent _ _ _) m
/-- what is kept so far -/
def pick (keep : List Int) (i : Nat) (a b : Value) : Value := if (i : Int) ∈ keep then a else b
theorem pick_hit {keep : List Int} {j : Nat} {i : Nat} {a b : Value} (hj : j < keep.length) (h : keep[j] = (i : Int)) : pick (keep.take (j + 1)) i a b = a := by
  unfold pick
  rw [if_pos]
  rw [List.take_succ_eq_append_getElem hj, h]
  simp
theorem pick_miss {keep : List Int} {j : Nat} {i : Nat} {a b : Value} (hj : j < keep.length) (h : keep[j] ≠ (i : Int)) : pick (keep.take (j + 1)) i a b = pick (keep.take j) i a b := by
  unfold pick
  have : ((i : Int) ∈ keep.take (j + 1)) ↔ ((i : Int) ∈ keep.take j) := by
    rw [List.take_succ_eq_append_getElem hj, List.mem_append, List.mem_singleton]
    exact ⟨fun h' => h'.elim id (fun e => absurd e.symm h), .inl⟩
  simp only [this]
theorem one_slice (A : Option Addr) (n c : Nat) : ∀ u ∈ [Value.slice A n c], u.oneCell' = true := by
  intro u hu
  rw [List.mem_singleton] at hu
  subst hu
  rfl
set_option maxHeartbeats 4000000 in
theorem walk_NvmCuts (A : Option Addr) (n c : Nat) (xs : List (Deed × Holds)) (kA : Option Addr) (kn kc : Nat) (keep : List Int) (w : World) (h : Deeds w A n xs) (_hc : n ≤ c) (hk : Is w kA kn keep ∧ ∀ i ∈ keep, -9223372036854775808 ≤ i ∧ i ≤ 9223372036854775807) (_hkm : kn ≤ maxLen) :
    Calls Try.prog 6 #[.slice A n c, .slice kA kn kc] w fun e w' => e = .returned (.bool true) ∧ Only [] w w' := by
  have HL := Lib.hid (law3_large A n c xs w h)
  by_cases hlg : isLarge xs = true
  · rw [hlg] at HL
    clear h hk
    go_enter Try.func6, Try.ntmps6
    go_wp2_with fail
    refine (HL.out).mono ?_
    rintro e w' ⟨rfl, rfl⟩
    go_wp2_with fail
    refine (law3_awake _).mono ?_
    rintro e w1 ⟨rfl, o1⟩
    have O1 := Lib.hid o1
    clear o1
    go_wp2
    go_ret
    exact ⟨rfl, O1.out⟩
  have hf : isLarge xs = false := by simpa using hlg
  rw [hf] at HL
  by_cases hkn : 100 < kn
  · have q : decide ((100 : Int) < (kn : Int)) = true := by go_num
    clear h hk hlg hf
    go_enter Try.func6, Try.ntmps6
    go_wp2_with fail
    refine (HL.out).mono ?_
    rintro e w' ⟨rfl, rfl⟩
    go_wp2_with fail
    refine (law3_awake _).mono ?_
    rintro e w1 ⟨rfl, o1⟩
    have O1 := Lib.hid o1
    clear o1
    go_wp2
    go_ret
    exact ⟨rfl, O1.out⟩
  have q : decide ((100 : Int) < (kn : Int)) = false := by go_num
  have hkn2 : kn ≤ 100 := by omega
  obtain ⟨_, hsm⟩ := large_no hf
  have HS := Lib.hid (law3_some A n c xs w h hsm)
  have HKL := Lib.hid (Is.len hk.1)
  have HKB := Lib.hid (fun (hp : 0 < kn) => sl_blocks hk.1 hp)
  have HK := Lib.hid hk.1
  clear h hlg hf hsm hk hkn
  have H8 := Lib.hid (playAll_8 xs)
  generalize playAll (newDev 8) xs = D at *
  obtain ⟨i0, hi, hz0, hz1, hz2⟩ := info_parts Try.bytesInfo
  have HI := Lib.hid hi
  have HZ0 := Lib.hid hz0
  have HZ1 := Lib.hid hz1
  have HZ2 := Lib.hid hz2
  clear hi hz0 hz1 hz2
  go_enter Try.func6, Try.ntmps6
  go_wp2_with fail
  refine (HL.out).mono ?_
  rintro e w' ⟨rfl, rfl⟩
  go_wp2_with fail
  refine (HS.out).mono ?_
  rintro e w1 ⟨g, cb, rfl, d1, o1, f1, f2⟩
  have hg1 := d1.lt1
  have hc1 := d1.lt2
  have D1 := Lib.hid d1
  have O1 := Lib.hid o1
  have K1 := Lib.hid (HK.out.only0 o1)
  clear d1 o1
  go_wp2
  go_loopw [6, 7, 8, 9, 10, 11, 12, 13] (fun v i _ _ _ _ _ _ wr => ∃ (k : Nat) (vs : List Value), k ≤ 8 ∧ i = .int .i64 k ∧ vs.length = k ∧ wr.ownsRow w1.heap.size 30 1 v k vs ∧ Rows wr w1.heap.size vs ((wants keep D.lines).take k) ∧ Only [] w1 wr) (fun _ i _ _ _ _ _ _ _ => 8 - (intOf i).toNat)
  case atStart => exact ⟨0, [], by omega, rfl, rfl, own_nil _ _ _ _, ⟨rfl, by simp⟩, Only.refl _ _⟩
  case round =>
    obtain ⟨k, vs, hk, rfl, hvs, ho, hr, on⟩ := hrel
    by_cases hlt : k < 8
    · have hx := lineOf_get (D := D) (i := k) (by rw [H8.out]; omega)
      generalize lineOf D (k : Int) = x at *
      have HX := Lib.hid hx
      have HVS := Lib.hid hvs
      have HO := Lib.hid ho
      have HR := Lib.hid hr
      have ON := Lib.hid on
      have DR := Lib.hid (D1.out.only0 on)
      clear hx hvs ho hr on
      go_wp2_with fail
      refine (nvm_Load g cb 8 D k x HX.out _ DR.out).mono ?_
      rintro e w4 ⟨v4, rfl, m4⟩
      obtain ⟨A4, c4, rfl, b4, o4⟩ := madeB_own2 m4
      have D4 := Lib.hid (DR.out.only0 o4)
      have O4 := Lib.hid (ON.out.trans0 o4)
      have s4 := ON.out.size
      have B4 := Lib.hid (World.ownsRow.mono b4 s4)
      have OA := Lib.hid o4
      clear m4 b4 o4
      go_wp2_with fail
      refine (nvm_Durable g cb 8 D k x HX.out _ D4.out).mono ?_
      rintro e w5 ⟨v5, rfl, m5⟩
      obtain ⟨A5, c5, rfl, b5, o5⟩ := madeB_own2 m5
      have O5 := Lib.hid (O4.out.trans0 o5)
      have B5 := Lib.hid (own_only B4.out o5 (by simp))
      have s5 := O4.out.size
      have C5 := Lib.hid (World.ownsRow.mono b5 s5)
      have OW := Lib.hid (OA.out.trans0 o5)
      clear m5 b5 o5 OA
      have K5 := Lib.hid (K1.out.only0 O5.out)
      have hlx := (D1.out.ok.get (i := k) (by rw [H8.out]; omega))
      have hxo1 : x.now.length = 64 := by
        obtain ⟨hk2, he⟩ := List.getElem?_eq_some_iff.1 HX.out
        rw [← he]; exact hlx.1
      have hxo2 : x.kept.length = 64 := by
        obtain ⟨hk2, he⟩ := List.getElem?_eq_some_iff.1 HX.out
        rw [← he]; exact hlx.2.1
      have HP0 := Lib.hid (show pick (keep.take 0) k (.slice A4 x.now.length c4) (.slice A5 x.kept.length c5) = .slice A5 x.kept.length c5 by simp [pick])
      have HPN := Lib.hid (show pick (keep.take kn) k (.slice A4 x.now.length c4) (.slice A5 x.kept.length c5) = pick keep k (.slice A4 x.now.length c4) (.slice A5 x.kept.length c5) by rw [List.take_of_length_le (by rw [HKL.out]; exact Nat.le_refl _)])
      clear hlx hxo1 hxo2
      go_wp2
      generalize hva : Value.slice A4 x.now.length c4 = va at *
      generalize hvb : Value.slice A5 x.kept.length c5 = vb at *
      have HVA := Lib.hid hva
      have HVB := Lib.hid hvb
      clear hva hvb
      go_loop [12, 13] (fun y j => ∃ i : Nat, i ≤ kn ∧ j = .int .i64 i ∧ y = pick (keep.take i) k va vb) (fun _ j => kn - (intOf j).toNat)
      case atStart => exact ⟨0, Nat.zero_le _, rfl, HP0.out.symm⟩
      case round =>
        obtain ⟨j, hj, rfl, rfl⟩ := hrel
        by_cases hjt : j < kn
        · have hjl : j < keep.length := by rw [HKL.out]; exact hjt
          obtain ⟨b, off, rfl, hcl⟩ := K5.out.at_ (by omega)
          have hcj := hcl j hjl
          have HH := Lib.hid (fun h => pick_hit (a := va) (b := vb) (i := k) hjl h)
          have HM := Lib.hid (fun h => pick_miss (a := va) (b := vb) (i := k) hjl h)
          clear hcl
          generalize keep[j] = u at *
          by_cases hu : u = (k : Int)
          · have q1 : (u == (k : Int)) = true := by simpa using hu
            have E := Lib.hid (HH.out hu)
            clear hu
            go_wp2
            go_round
            case rel => exact ⟨j + 1, by omega, by go_num, E.out.symm⟩
            case measure => simp [intOf]; omega
          · have q1 : (u == (k : Int)) = false := by simpa using hu
            have E := Lib.hid (HM.out hu)
            clear hu
            go_wp2
            go_round
            case rel => exact ⟨j + 1, by omega, by go_num, E.out.symm⟩
            case measure => simp [intOf]; omega
        · obtain rfl : j = kn := by omega
          have hv6 : w5.ownsRow w1.heap.size 5 1 (pick keep k va vb) (wantOf keep k x).length ((wantOf keep k x).map B) := by
            rw [← HVA.out, ← HVB.out]
            unfold pick wantOf
            split
            · rw [HVA.out]; exact B5.out
            · rw [HVB.out]; exact C5.out
          rw [HPN.out]
          have hr5 := HR.out.only OW.out (by simp)
          have ho5 := own_only HO.out OW.out (by simp)
          have HTK := Lib.hid (wants_take (keep := keep) HX.out)
          obtain ⟨A6, c6, he6, _, _⟩ := own_slice hv6
          rw [he6] at hv6 ⊢
          have al : Only [] w5 (w5.alloc (.cells #[.slice A6 (wantOf keep k x).length c6] 30)) := (Only.refl _ _).alloc _
          obtain ⟨A7, c7, w7, hrun, ho7, on7, hg7⟩ := append_ownG (P := Try.prog) (w0 := w1) (w5.alloc (.cells #[.slice A6 (wantOf keep k x).length c6] 30)) (O5.out.alloc _) 49 49 30 i0 _ 24 Try.underlying49 HI.out HZ0.out HZ1.out HZ2.out rfl _ k vs (ho5.alloc _) (some ⟨w5.heap.size, 0, none⟩) 1 1 [.slice A6 (wantOf keep k x).length c6] (cell_new1 _ _ _) (one_slice _ _ _) (by unfold maxLen; omega) (by omega)
          have hr7 := ((hr5.only al (by simp)).snoc (own_only hv6 al (by simp))).grown (ho5.alloc _) (by decide) hg7
          rw [← HTK.out] at hr7
          have R7 := Lib.hid hr7
          have H7 := Lib.hid ho7
          have N7 := Lib.hid on7
          have V7 := Lib.hid (show (vs ++ [Value.slice A6 (wantOf keep k x).length c6]).length = k + 1 by rw [List.length_append, HVS.out]; rfl)
          clear hr5 ho5 hv6 he6 al ho7 on7 hg7 hr7
          go_wp2_with (at_builtin; refine wpList_append_run _ rfl (.tmp 63) (.tmp 65) 49 rfl _ _ rfl rfl _ _ hrun ?_)
          go_roundw
          case rel => exact ⟨k + 1, _, by omega, by go_num, V7.out, H7.out, R7.out, N7.out⟩
          case measure => simp [intOf]; omega
    · obtain rfl : k = 8 := by omega
      obtain ⟨qb, qc, rfl, hqb, hql⟩ := World.ownsRow.form ho (by omega)
      have HVS := Lib.hid hvs
      have HO := Lib.hid ho
      have hr8 : Rows wr w1.heap.size vs (wants keep D.lines) := by
        have := hr
        rwa [List.take_of_length_le (by unfold wants; rw [List.length_mapIdx, H8.out]; exact Nat.le_refl _)] at this
      have HR := Lib.hid hr8
      have DR := Lib.hid (D1.out.only0 on)
      have KR := Lib.hid (K1.out.only0 on)
      have ON := Lib.hid (O1.out.trans0 on)
      clear hvs ho hr hr8 on
      go_wp2_with fail
      refine (nvm_Cut g cb 8 D kA kn kc keep _ DR.out KR.out (by omega) (fun hp b off s e => by have := HKB.out hp b off s e; omega)).mono ?_
      rintro e w2 ⟨A2, c2, rfl, _, d2, o2⟩
      have hlost := lostTo_length keep D.lines D.lines.length
      rw [H8.out] at hlost ⊢
      generalize (lostTo keep D.lines 8).length = q at *
      have D2 := Lib.hid d2
      have O2 := Lib.hid (ON.out.trans o2 (by intro b hb; simp at hb; rcases hb with rfl | rfl <;> omega))
      have W2 := Lib.hid (own_only HO.out o2 (by intro k hk; simp [Value.ownBlock] at hk; subst hk; simp; omega))
      have R2 := Lib.hid (HR.out.only o2 (by intro b hb; simp at hb; omega))
      clear d2 o2
      have X2 := Lib.hid (fun (i : Nat) (x : Line) (h : D.lines[i]? = some x) => (by unfold cutD; rw [List.getElem?_mapIdx, h]; rfl : (cutD D keep).lines[i]? = some (cutL keep i x)))
      have L2 := Lib.hid (cut_loose D keep (cutD D keep).lines.length)
      have S2 := Lib.hid (cut_sent D keep (cutD D keep).lines.length)
      generalize cutD D keep = E at *
      go_wp2_with fail
      refine (nvm_Loose g cb 8 E _ D2.out).mono ?_
      rintro e w3 ⟨v3, rfl, m3⟩
      rw [L2.out] at m3
      obtain ⟨A3, c3, rfl, _, o3⟩ := madeI_is m3
      have D3 := Lib.hid (D2.out.only0 o3)
      have O3 := Lib.hid (O2.out.trans0 o3)
      have W3 := Lib.hid (own_only W2.out o3 (by simp))
      have R3 := Lib.hid (R2.out.only o3 (by simp))
      clear m3 o3
      go_wp2_with fail
      refine (nvm_Way g cb 8 E _ D3.out).mono ?_
      rintro e w4 ⟨v4, rfl, m4⟩
      rw [S2.out] at m4
      obtain ⟨A4, c4, rfl, _, o4⟩ := madeI_is m4
      have D4 := Lib.hid (D3.out.only0 o4)
      have O4 := Lib.hid (O3.out.trans0 o4)
      have W4 := Lib.hid (own_only W3.out o4 (by simp))
      have R4 := Lib.hid (R3.out.only o4 (by simp))
      have hq : decide ((8 : Int) < (q : Int)) = false := by go_num
      clear m4 o4
      go_wp2
      go_loopw [16, 17, 18, 19, 20] (fun i _ _ _ _ wr => ∃ (k : Nat), k ≤ 8 ∧ i = .int .i64 k ∧ DevAt wr g cb 8 E ∧ wr.ownsRow w1.heap.size 30 1 (.slice (some ⟨qb, 0, none⟩) 8 qc) 8 vs ∧ Rows wr w1.heap.size vs (wants keep D.lines) ∧ Only [] w wr) (fun i _ _ _ _ _ => 8 - (intOf i).toNat)
      case atStart => exact ⟨0, by omega, rfl, D4.out, W4.out, R4.out, O4.out⟩
      case round =>
        obtain ⟨k, hk, rfl, hd, ho, hr, on⟩ := hrel
        by_cases hlt : k < 8
        · have hx := lineOf_get (D := D) (i := k) (by rw [H8.out]; omega)
          generalize lineOf D (k : Int) = x at *
          have hy := X2.out k x hx
          have hw := wants_get (keep := keep) hx
          have hn := cutL_now keep k x
          have hkp := cutL_kept keep k x
          rw [hn] at hkp
          generalize wantOf keep k x = l at *
          generalize cutL keep k x = y at *
          have HY := Lib.hid hy
          have HW := Lib.hid hw
          have HN := Lib.hid hn
          have HKP := Lib.hid hkp
          have HD := Lib.hid hd
          have HO := Lib.hid ho
          have HR := Lib.hid hr
          have ON := Lib.hid on
          clear hx hy hw hn hkp hd ho hr on
          go_wp2_with fail
          refine (nvm_Load g cb 8 E k y HY.out _ HD.out).mono ?_
          rintro e w5 ⟨v5, rfl, m5⟩
          obtain ⟨A5, c5, rfl, b5, _, o5⟩ := madeB_bs m5
          rw [HN.out] at b5
          rw [HN.out]
          have D5 := Lib.hid (HD.out.only0 o5)
          have O5 := Lib.hid (ON.out.trans0 o5)
          have W5 := Lib.hid (own_only HO.out o5 (by simp))
          have R5 := Lib.hid (HR.out.only o5 (by simp))
          have B5 := Lib.hid b5
          clear m5 b5 o5
          go_wp2_with fail
          refine (nvm_Durable g cb 8 E k y HY.out _ D5.out).mono ?_
          rintro e w6 ⟨v6, rfl, m6⟩
          obtain ⟨A6, c6, rfl, b6, _, o6⟩ := madeB_bs m6
          rw [HKP.out] at b6
          rw [HKP.out]
          have D6 := Lib.hid (D5.out.only0 o6)
          have O6 := Lib.hid (O5.out.trans0 o6)
          have ho6 := own_only W5.out o6 (by simp)
          have hr6 := R5.out.only o6 (by simp)
          have B6 := Lib.hid (Sl.only0 B5.out o6)
          have C6 := Lib.hid b6
          have hkv : k < vs.length := by rw [HVS.out]; exact hlt
          have hvk : vs[k]? = some vs[k] := List.getElem?_eq_getElem hkv
          have hce := World.ownsRow.cellAt ho6 k hlt
          have hown := hr6.2 k _ l hvk HW.out
          rw [hvk] at hce
          obtain ⟨A9, c9, he9, _, _⟩ := own_slice hown
          rw [he9] at hce hown
          have B9 := Lib.hid (bs_own hown)
          have W6 := Lib.hid ho6
          have R6 := Lib.hid hr6
          clear m6 b6 o6 ho6 hr6 hvk hown he9
          go_wp2_with fail
          refine (law0_SameBytes _ _ _ _ _ _ _ _ _ B6.out B9.out).mono ?_
          rintro e w' ⟨rfl, rfl⟩
          rw [beq_self_eq_true]
          go_wp2_with fail
          refine (law0_SameBytes _ _ _ _ _ _ _ _ _ C6.out B9.out).mono ?_
          rintro e w' ⟨rfl, rfl⟩
          rw [beq_self_eq_true]
          go_wp2
          go_roundw
          case rel => exact ⟨k + 1, by omega, by go_num, D6.out, W6.out, R6.out, O6.out⟩
          case measure => simp [intOf]; omega
        · have ON := Lib.hid on
          clear hd ho hr on
          go_wp2_with fail
          refine (law3_awake _).mono ?_
          rintro e wb ⟨rfl, ob⟩
          have Ob := Lib.hid (ON.out.trans0 ob)
          clear ob
          go_wp2
          go_ret
          exact ⟨rfl, Ob.out⟩
end Go.Proofs.Ytfafpggppbolkaa
/- Law 3: do both devices tell the same? -/
set_option maxRecDepth 100000
namespace Go.Proofs.Ytfafpggppbolkaa
open Go.RowKit Go.Proofs.FuMem Go.Proofs.FuNvm Go.Proofs.FuCode
/-- what was answered is written over: its block alone, and what is new -/
theorem law0_OverBytes2 (S : List Nat) (base : Nat) (A : Option Addr) (n c : Nat) (l : List UInt8) (w : World) (h : w.ownsRow base 5 1 (.slice A n c) n (l.map B)) (hbase : base ≤ w.heap.size) (hS : ∀ k, (Value.slice A n c).ownBlock = some k → k ∈ S) (hn : n ≤ 1000000) :
    Calls Try.prog 87 #[.slice A n c] w fun e w' => e = .returned (.tuple #[]) ∧ Only S w w' := by
  obtain ⟨i0, hi, hz0, hz1, hz2⟩ := info_parts Try.byteInfo
  have HI := Lib.hid hi
  have HZ0 := Lib.hid hz0
  have HZ1 := Lib.hid hz1
  have HZ2 := Lib.hid hz2
  have HO := Lib.hid h
  have HS := Lib.hid hS
  clear hi hz0 hz1 hz2 h hS
  go_enter Try.func87, Try.ntmps87
  go_wp2
  go_loopw [2] (fun i wr => ∃ (j : Nat) (l' : List UInt8), j ≤ n ∧ i = .int .i64 j ∧ wr.ownsRow base 5 1 (.slice A n c) n (l'.map B) ∧ Only S w wr) (fun i _ => n - (intOf i).toNat)
  case atStart => exact ⟨0, l, Nat.zero_le _, rfl, HO.out, Only.refl _ _⟩
  case round =>
    obtain ⟨j, l', hj, rfl, ho, on⟩ := hrel
    by_cases hlt : j < n
    · obtain ⟨g, rfl, hbg, hgg, ho⟩ := OwnB.of ho (by omega)
      have hcell := ho.cell j hlt
      have hfr := ho.frozen j
      have hst := ho.set j (xor8 (l'.getD j 0) 255 (by omega))
      have on2 := on.setCell (p := ⟨g, j, none⟩) (.inl (HS.out g rfl)) (.int .u8 (bits .xor .u8 ((l'.getD j 0).toNat : Int) ((255 : Nat) : Int)))
      rw [show ((255 : Nat) : Int) = 255 from rfl] at hst on2
      have H1 := Lib.hid hst
      have H2 := Lib.hid on2
      clear ho on hst on2
      generalize l'.set j (l'.getD j 0 ^^^ UInt8.ofNat 255) = l2 at *
      generalize (l'.getD j 0).toNat = x at *
      go_wp2
      go_roundw
      case rel => exact ⟨j + 1, l2, by omega, by go_num, H1.out, H2.out⟩
      case measure => simp [intOf]; omega
    · obtain rfl : j = n := by omega
      obtain ⟨v', w', hr, ho2, hg2, _⟩ := run_append_sl (P := Try.prog) (wr.alloc (.cells #[.int .u8 90] 5)) base 30 30 5 i0 _ 1 Try.underlying30 HI.out HZ0.out HZ1.out HZ2.out rfl _ j _ (ho.alloc _) (some ⟨wr.heap.size, 0, none⟩) 1 1 [.int .u8 90] (one_cell _ _ _) (one_ints _ _) (by unfold maxLen; omega) (by omega) (by have := on.size; simp; omega)
      have on2 : Only S w w' := (on.alloc _).trans (Only.of_grown hg2 (S := S) (fun k hk => .inl (HS.out k hk))) (fun b hb => .inl hb)
      have H2 := Lib.hid on2
      clear ho on ho2 hg2 on2
      go_wp2_with (at_builtin; refine wpList_append_run _ rfl (.tmp 17) (.tmp 18) 30 rfl _ _ rfl rfl _ _ hr ?_)
      go_end0
      exact ⟨rfl, H2.out⟩
/-- the list that holds a slice's own block -/
theorem own_list {w : World} {base : Nat} {e : TypeId} {size n : Nat} {v : Value} {xs : List Value} (h : w.ownsRow base e size v n xs) : ∃ S : List Nat, (∀ k, v.ownBlock = some k → k ∈ S) ∧ ∀ k ∈ S, base ≤ k ∧ k < w.heap.size := by
  refine ⟨v.ownBlock.toList, fun k hk => by rw [hk]; simp, fun k hk => ?_⟩
  have hk' : v.ownBlock = some k := by simpa using hk
  have h1 := World.ownsRow.lt h k hk'
  rcases h.2 with ⟨rfl, _⟩ | ⟨g, cap, cur, rfl, hbg, hg, _⟩
  · simp [Value.ownBlock] at hk'
  · have : g = k := by simpa [Value.ownBlock] using hk'
    subst this
    exact ⟨hbg, (Array.getElem?_eq_some_iff.1 hg).1⟩
set_option maxHeartbeats 16000000 in
theorem law3_alike (g cb cap rg rb rcap : Nat) (D : Dev) (w : World) (hd : DevAt w g cb cap D) (hr : RefAt w rg rb rcap D) :
    Calls Try.prog 53 #[.pointer (some ⟨g, 0, none⟩), .pointer (some ⟨rg, 0, none⟩)] w fun e w' => e = .returned (.bool true) ∧ Only [] w w' := by
  have hf := hd.few
  have HD := Lib.hid hd
  have HR := Lib.hid hr
  clear hd hr
  obtain ⟨m, hm⟩ : ∃ m, m = D.lines.length := ⟨_, rfl⟩
  rw [← hm] at hf
  have HM := Lib.hid hm
  clear hm
  go_enter Try.func53, Try.ntmps53
  go_wp2
  go_loopw [5, 6, 7, 8, 9, 10, 11, 12, 13] (fun i _ _ _ _ _ _ _ _ wr => ∃ j : Nat, j ≤ m + 2 ∧ i = .int .i64 ((j : Int) - 1) ∧ Only [] w wr) (fun i _ _ _ _ _ _ _ _ _ => m + 2 - (intOf i + 1).toNat)
  case atStart => exact ⟨0, Nat.zero_le _, rfl, Only.refl _ _⟩
  case round =>
    obtain ⟨j, hj, rfl, on⟩ := hrel
    have DR := Lib.hid (HD.out.only0 on)
    have RR := Lib.hid (HR.out.only0 on)
    have ON := Lib.hid on
    clear on
    have hc0 : wr.cell? ⟨rg, 0, none⟩ = some (.slice (some ⟨rb, 0, none⟩) m rcap) := by
      rw [RR.out.cell 0, HM.out]
      rfl
    by_cases hlt : j < m + 2
    · have q1 : decide ((j : Int) - 1 ≤ (m : Int)) = true := by rw [decide_eq_true_eq]; omega
      by_cases hin : 1 ≤ j ∧ j < m + 1
      · obtain ⟨k, rfl⟩ : ∃ k, j = k + 1 := ⟨j - 1, by omega⟩
        have ek : ((k + 1 : Nat) : Int) - 1 = (k : Int) := by omega
        rw [ek] at q1 ⊢
        have hx := lineOf_get (D := D) (i := k) (by rw [← HM.out]; omega)
        generalize lineOf D (k : Int) = x at *
        have HX := Lib.hid hx
        have hok := DR.out.ok x (List.mem_of_getElem? hx)
        have HN1 := Lib.hid hok.1
        have HN2 := Lib.hid hok.2.1
        have hkm : k < m := by omega
        clear hx hok hin ek
        go_wp2_with fail
        refine (nvm_Load g cb cap D k x HX.out _ DR.out).mono ?_
        rintro e w4 ⟨v4, rfl, m4⟩
        obtain ⟨A4, c4, rfl, b4, o4⟩ := madeB_own2 m4
        rw [HN1.out] at b4 ⊢
        have D4 := Lib.hid (DR.out.only0 o4)
        have R4 := Lib.hid (RR.out.only0 o4)
        have O4 := Lib.hid o4
        have B4 := Lib.hid b4
        clear m4 b4 o4
        go_wp2_with fail
        refine (ref3_Load rg rb rcap D k x HX.out _ R4.out).mono ?_
        rintro e w5 ⟨v5, rfl, g5, rfl, b5, f5, o5⟩
        rw [HN1.out] at b5 ⊢
        have hz5 := o5.size
        have D5 := Lib.hid (D4.out.only0 o5)
        have R5 := Lib.hid (R4.out.only0 o5)
        have O5 := Lib.hid (O4.out.trans0 o5)
        have B5 := Lib.hid (own_only B4.out o5 (by simp))
        have C5 := Lib.hid b5
        clear b5 o5 f5
        go_wp2_with fail
        refine (nvm_Durable g cb cap D k x HX.out _ D5.out).mono ?_
        rintro e w6 ⟨v6, rfl, m6⟩
        obtain ⟨A6, c6, rfl, b6, o6⟩ := madeB_own2 m6
        rw [HN2.out] at b6 ⊢
        have hs5 := O5.out.size
        have hs4 := O4.out.size
        have hz6 := o6.size
        have R6 := Lib.hid (R5.out.only0 o6)
        have O6 := Lib.hid (O5.out.trans0 o6)
        have B6 := Lib.hid (own_only B5.out o6 (by simp))
        have C6 := Lib.hid (Bs.only0 C5.out o6)
        have E6 := Lib.hid b6
        clear m6 b6 o6
        go_wp2_with fail
        refine (ref3_Durable rg rb rcap D k x HX.out _ R6.out).mono ?_
        rintro e w7 ⟨v7, rfl, g7, rfl, b7, f7, o7⟩
        rw [HN2.out] at b7 ⊢
        have hz7 := o7.size
        have O7 := Lib.hid (O6.out.trans0 o7)
        have B7 := Lib.hid (own_only B6.out o7 (by simp))
        have C7 := Lib.hid (Bs.only0 C6.out o7)
        have E7 := Lib.hid (own_only E6.out o7 (by simp))
        have F7 := Lib.hid b7
        clear b7 o7 f7
        go_wp2_with fail
        refine (law0_SameBytes _ _ _ _ _ _ _ _ _ (bs_own B7.out) C7.out).mono ?_
        rintro e w' ⟨rfl, rfl⟩
        rw [beq_self_eq_true]
        go_wp2_with fail
        refine (law0_Num _ _).mono ?_
        rintro e w' ⟨rfl, rfl⟩
        go_wp2_with fail
        refine (law0_SameBytes _ _ _ _ _ _ _ _ _ (bs_own E7.out) F7.out).mono ?_
        rintro e w' ⟨rfl, rfl⟩
        rw [beq_self_eq_true]
        go_wp2_with fail
        refine (law0_Num _ _).mono ?_
        rintro e w' ⟨rfl, rfl⟩
        have hs7 := O7.out.size
        obtain ⟨S, hS1, hS2⟩ := own_list B4.out
        have HS1 := Lib.hid hS1
        have HS2 := Lib.hid hS2
        clear hS1 hS2
        go_wp2_with fail
        refine (law0_OverBytes2 S wr.heap.size A4 64 c4 x.now _ B7.out hs7 HS1.out (by omega)).mono ?_
        rintro e w8 ⟨rfl, o8⟩
        have E8 := Lib.hid (own_only E7.out o8 (fun k hk hb => by have h1 := HS2.out k hb; have h2 := World.ownsRow.lt E7.out k hk; omega))
        have O8 := Lib.hid (O7.out.trans o8 (fun b hb => .inr (by have := HS2.out b hb; omega)))
        have hs8 := o8.size
        clear o8
        obtain ⟨S2, hT1, hT2⟩ := own_list E8.out
        have HT1 := Lib.hid hT1
        have HT2 := Lib.hid hT2
        clear hT1 hT2
        go_wp2_with fail
        refine (law0_OverBytes2 S2 w5.heap.size A6 64 c6 x.kept _ E8.out (by omega) HT1.out (by omega)).mono ?_
        rintro e w9 ⟨rfl, o9⟩
        have O9 := Lib.hid (O8.out.trans o9 (fun b hb => .inr (by have := HT2.out b hb; omega)))
        have OE := Lib.hid (ON.out.trans0 O9.out)
        clear o9
        go_wp2
        go_roundw
        case rel => exact ⟨k + 2, by omega, by go_num, OE.out⟩
        case measure => simp [intOf]; omega
      · have ho : (j : Int) - 1 < 0 ∨ (m : Int) ≤ (j : Int) - 1 := by omega
        have hnp : noPlace D.lines.length ((j : Int) - 1) 0 0 := by unfold noPlace; rw [← HM.out]; omega
        have hno : (j : Int) - 1 < 0 ∨ (D.lines.length : Int) ≤ (j : Int) - 1 := by rw [← HM.out]; exact ho
        have ej : (j : Int) - 1 + 1 = (((j + 1 : Nat) : Int) - 1) := by omega
        have hiv : -1 ≤ (j : Int) - 1 := by omega
        have hiw : (j : Int) - 1 ≤ 258 := by omega
        have hj1 : (j : Int) - 1 + 1 ≤ (j : Int) := by omega
        have hj2 : (j : Int) ≤ (j : Int) - 1 + 1 := by omega
        generalize (j : Int) - 1 = i at *
        have HNP := Lib.hid hnp
        have HNO := Lib.hid hno
        have EJ := Lib.hid ej
        clear hnp hno ho hin ej
        go_wp2_with fail
        refine (nvm_Load_no g cb cap D i _ DR.out HNP.out).mono ?_
        rintro e w' ⟨rfl, rfl⟩
        go_wp2_with fail
        refine (ref3_Load_no rg rb rcap D i _ RR.out HNO.out).mono ?_
        rintro e w' ⟨rfl, rfl⟩
        go_wp2_with fail
        refine (nvm_Durable_no g cb cap D i _ DR.out HNP.out).mono ?_
        rintro e w' ⟨rfl, rfl⟩
        go_wp2_with fail
        refine (ref3_Durable_no rg rb rcap D i _ RR.out HNO.out).mono ?_
        rintro e w' ⟨rfl, rfl⟩
        go_wp2_with fail
        refine (law0_SameBytes _ _ _ _ _ _ _ _ _ (Bs.nil _ _) (Bs.nil _ _)).mono ?_
        rintro e w' ⟨rfl, rfl⟩
        rw [beq_self_eq_true]
        go_wp2_with fail
        refine (law0_Num _ _).mono ?_
        rintro e w' ⟨rfl, rfl⟩
        go_wp2_with fail
        refine (law0_SameBytes _ _ _ _ _ _ _ _ _ (Bs.nil _ _) (Bs.nil _ _)).mono ?_
        rintro e w' ⟨rfl, rfl⟩
        rw [beq_self_eq_true]
        go_wp2_with fail
        refine (law0_Num _ _).mono ?_
        rintro e w' ⟨rfl, rfl⟩
        go_wp2_with fail
        refine (law0_OverBytes2 [] 0 none 0 0 [] _ (own_nil _ _ _ _) (Nat.zero_le _) (fun k h => by cases h) (by omega)).mono ?_
        rintro e w8 ⟨rfl, o8⟩
        have O8 := Lib.hid o8
        clear o8
        go_wp2_with fail
        refine (law0_OverBytes2 [] 0 none 0 0 [] _ (own_nil _ _ _ _) (Nat.zero_le _) (fun k h => by cases h) (by omega)).mono ?_
        rintro e w9 ⟨rfl, o9⟩
        have O9 := Lib.hid ((ON.out.trans0 O8.out).trans0 o9)
        clear o9
        go_wp2
        go_roundw
        case rel => exact ⟨j + 1, by omega, by rw [EJ.out], O9.out⟩
        case measure => simp [intOf]; omega
    · obtain rfl : j = m + 2 := by omega
      have q1 : decide (((m + 2 : Nat) : Int) - 1 ≤ (m : Int)) = false := by rw [decide_eq_false_iff_not]; omega
      have hfl := those_few (fun x => x.now != x.kept) D.lines D.lines.length
      have hfw := those_few (fun x => x.sent) D.lines D.lines.length
      rw [← HM.out] at hfl hfw
      have HFL := Lib.hid hfl
      have HFW := Lib.hid hfw
      clear hfl hfw
      have hl1 := DR.out.lt1
      have hr1 := RR.out.lt1
      go_wp2_with fail
      refine (nvm_Loose g cb cap D _ DR.out).mono ?_
      rintro e w4 ⟨v4, rfl, A4, c4, rfl, b4, o4⟩
      rw [← HM.out] at b4 ⊢
      have D4 := Lib.hid (DR.out.only0 o4)
      have R4 := Lib.hid (RR.out.only0 o4)
      have O4 := Lib.hid o4
      have B4 := Lib.hid b4
      have hz4 := o4.size
      clear b4 o4
      go_wp2_with fail
      refine (nvm_Way g cb cap D _ D4.out).mono ?_
      rintro e w5 ⟨v5, rfl, A5, c5, rfl, b5, o5⟩
      rw [← HM.out] at b5 ⊢
      have hz5 := o5.size
      have D5 := Lib.hid (D4.out.only0 o5)
      have R5 := Lib.hid (R4.out.only0 o5)
      have O5 := Lib.hid (O4.out.trans0 o5)
      have B5 := Lib.hid (own_only B4.out o5 (by simp))
      have E5 := Lib.hid b5
      clear b5 o5 hc0
      go_wp2_with fail
      have dr : Only [] w5 w5.drew := (Only.refl _ _).drew
      have DD := Lib.hid (D5.out.only0 dr)
      have RD := Lib.hid (R5.out.only0 dr)
      have BD := Lib.hid (own_only B5.out dr (by simp))
      have ED := Lib.hid (own_only E5.out dr (by simp))
      have OD := Lib.hid (O5.out.trans0 dr)
      have x0 : w5.cell? ⟨rg, 0, none⟩ = some (.slice (some ⟨rb, 0, none⟩) m rcap) := by rw [R5.out.cell 0, HM.out]; rfl
      have x1 : w5.cell? ⟨rg, 1, none⟩ = some (.int .i64 D.stores) := R5.out.cell 1
      have x2 : w5.cell? ⟨rg, 2, none⟩ = some (.int .i64 D.flushes) := R5.out.cell 2
      have x3 : w5.cell? ⟨rg, 3, none⟩ = some (.int .i64 D.fences) := R5.out.cell 3
      have x4 : w5.cell? ⟨rg, 4, none⟩ = some (.int .i64 D.backs) := R5.out.cell 4
      have x5 : w5.cell? ⟨rg, 5, none⟩ = some (.int .i64 D.cuts) := R5.out.cell 5
      clear dr
      go_region_held3 (fun w' => w'.cell? ⟨rg, 0, none⟩ = some (.slice (some ⟨rb, 0, none⟩) m rcap) ∧ w'.cell? ⟨rg, 1, none⟩ = some (.int .i64 D.stores) ∧ w'.cell? ⟨rg, 2, none⟩ = some (.int .i64 D.flushes) ∧ w'.cell? ⟨rg, 3, none⟩ = some (.int .i64 D.fences) ∧ w'.cell? ⟨rg, 4, none⟩ = some (.int .i64 D.backs) ∧ w'.cell? ⟨rg, 5, none⟩ = some (.int .i64 D.cuts)) (go_keep)
        (first
          | (go_at_call 88; refine (ref3_Loose rg rb rcap D _ RD.out).mono ?_; rintro e w6 ⟨v6, rfl, A6, c6, rfl, b6, o6⟩; rw [← HM.out] at b6 ⊢; have F6 := Lib.hid b6; have R6 := Lib.hid (RD.out.only0 o6); have D6 := Lib.hid (DD.out.only0 o6); have B6 := Lib.hid (own_only BD.out o6 (by simp)); have E6 := Lib.hid (own_only ED.out o6 (by simp)); have O6 := Lib.hid (OD.out.trans0 o6); have q0w6 : w6.cell? ⟨rg, 0, none⟩ = some (.slice (some ⟨rb, 0, none⟩) m rcap) := (by rw [R6.out.cell 0, HM.out]; rfl); have q1w6 : w6.cell? ⟨rg, 1, none⟩ = some (.int .i64 D.stores) := R6.out.cell 1; have q2w6 : w6.cell? ⟨rg, 2, none⟩ = some (.int .i64 D.flushes) := R6.out.cell 2; have q3w6 : w6.cell? ⟨rg, 3, none⟩ = some (.int .i64 D.fences) := R6.out.cell 3; have q4w6 : w6.cell? ⟨rg, 4, none⟩ = some (.int .i64 D.backs) := R6.out.cell 4; have q5w6 : w6.cell? ⟨rg, 5, none⟩ = some (.int .i64 D.cuts) := R6.out.cell 5; clear b6 o6)
          | (go_at_call 56; refine (law0_SameInts A5 A8 _ _ _ _ _ _ _ (is_own E8.out) (is_own F8.out) (by have := HFW.out; omega) (by have := HFW.out; omega)).mono ?_; rintro e w9 ⟨rfl, o9⟩; rw [beq_self_eq_true]; have R9 := Lib.hid (R8.out.only0 o9); have D9 := Lib.hid (D8.out.only0 o9); have B9 := Lib.hid (own_only B8.out o9 (by simp)); have E9 := Lib.hid (own_only E8.out o9 (by simp)); have O9 := Lib.hid (O8.out.trans0 o9); have q0w9 : w9.cell? ⟨rg, 0, none⟩ = some (.slice (some ⟨rb, 0, none⟩) m rcap) := (by rw [R9.out.cell 0, HM.out]; rfl); have q1w9 : w9.cell? ⟨rg, 1, none⟩ = some (.int .i64 D.stores) := R9.out.cell 1; have q2w9 : w9.cell? ⟨rg, 2, none⟩ = some (.int .i64 D.flushes) := R9.out.cell 2; have q3w9 : w9.cell? ⟨rg, 3, none⟩ = some (.int .i64 D.fences) := R9.out.cell 3; have q4w9 : w9.cell? ⟨rg, 4, none⟩ = some (.int .i64 D.backs) := R9.out.cell 4; have q5w9 : w9.cell? ⟨rg, 5, none⟩ = some (.int .i64 D.cuts) := R9.out.cell 5; clear o9)
          | (go_at_call 56; refine (law0_SameInts A4 A6 _ _ _ _ _ _ _ (is_own B6.out) (is_own F6.out) (by have := HFL.out; omega) (by have := HFL.out; omega)).mono ?_; rintro e w7 ⟨rfl, o7⟩; rw [beq_self_eq_true]; have R7 := Lib.hid (R6.out.only0 o7); have D7 := Lib.hid (D6.out.only0 o7); have B7 := Lib.hid (own_only B6.out o7 (by simp)); have E7 := Lib.hid (own_only E6.out o7 (by simp)); have O7 := Lib.hid (O6.out.trans0 o7); have q0w7 : w7.cell? ⟨rg, 0, none⟩ = some (.slice (some ⟨rb, 0, none⟩) m rcap) := (by rw [R7.out.cell 0, HM.out]; rfl); have q1w7 : w7.cell? ⟨rg, 1, none⟩ = some (.int .i64 D.stores) := R7.out.cell 1; have q2w7 : w7.cell? ⟨rg, 2, none⟩ = some (.int .i64 D.flushes) := R7.out.cell 2; have q3w7 : w7.cell? ⟨rg, 3, none⟩ = some (.int .i64 D.fences) := R7.out.cell 3; have q4w7 : w7.cell? ⟨rg, 4, none⟩ = some (.int .i64 D.backs) := R7.out.cell 4; have q5w7 : w7.cell? ⟨rg, 5, none⟩ = some (.int .i64 D.cuts) := R7.out.cell 5; clear o7)
          | (go_at_call 89; refine (ref3_Way rg rb rcap D _ R7.out).mono ?_; rintro e w8 ⟨v8, rfl, A8, c8, rfl, b8, o8⟩; rw [← HM.out] at b8 ⊢; have F8 := Lib.hid b8; have R8 := Lib.hid (R7.out.only0 o8); have D8 := Lib.hid (D7.out.only0 o8); have B8 := Lib.hid (own_only B7.out o8 (by simp)); have E8 := Lib.hid (own_only E7.out o8 (by simp)); have O8 := Lib.hid (O7.out.trans0 o8); have q0w8 : w8.cell? ⟨rg, 0, none⟩ = some (.slice (some ⟨rb, 0, none⟩) m rcap) := (by rw [R8.out.cell 0, HM.out]; rfl); have q1w8 : w8.cell? ⟨rg, 1, none⟩ = some (.int .i64 D.stores) := R8.out.cell 1; have q2w8 : w8.cell? ⟨rg, 2, none⟩ = some (.int .i64 D.flushes) := R8.out.cell 2; have q3w8 : w8.cell? ⟨rg, 3, none⟩ = some (.int .i64 D.fences) := R8.out.cell 3; have q4w8 : w8.cell? ⟨rg, 4, none⟩ = some (.int .i64 D.backs) := R8.out.cell 4; have q5w8 : w8.cell? ⟨rg, 5, none⟩ = some (.int .i64 D.cuts) := R8.out.cell 5; clear b8 o8)
          | (go_at_call 55; refine (nvm_Counts g cb cap D _ D9.out).mono ?_; rintro e wa ⟨rfl, oa⟩; have Ra := Lib.hid (R9.out.only0 oa); have Da := Lib.hid (D9.out.only0 oa); have Ba := Lib.hid (own_only B9.out oa (by simp)); have Ea := Lib.hid (own_only E9.out oa (by simp)); have Oa := Lib.hid (O9.out.trans0 oa); have q0wa : wa.cell? ⟨rg, 0, none⟩ = some (.slice (some ⟨rb, 0, none⟩) m rcap) := (by rw [Ra.out.cell 0, HM.out]; rfl); have q1wa : wa.cell? ⟨rg, 1, none⟩ = some (.int .i64 D.stores) := Ra.out.cell 1; have q2wa : wa.cell? ⟨rg, 2, none⟩ = some (.int .i64 D.flushes) := Ra.out.cell 2; have q3wa : wa.cell? ⟨rg, 3, none⟩ = some (.int .i64 D.fences) := Ra.out.cell 3; have q4wa : wa.cell? ⟨rg, 4, none⟩ = some (.int .i64 D.backs) := Ra.out.cell 4; have q5wa : wa.cell? ⟨rg, 5, none⟩ = some (.int .i64 D.cuts) := Ra.out.cell 5; clear oa)
          | (go_at_call 54; refine (nvm_Lines g cb cap D _ Da.out).mono ?_; rintro e wb ⟨rfl, rfl⟩; rw [← HM.out]))
      obtain ⟨S, hS1, hS2⟩ := own_list B4.out
      have HS1 := Lib.hid hS1
      have HS2 := Lib.hid hS2
      have hsa := Oa.out.size
      have hfl := HFL.out
      have hfw := HFW.out
      clear hS1 hS2
      go_wp2_with fail
      refine (law0_OverInts2 S wr.heap.size A4 _ c4 _ _ Ba.out hsa HS1.out (by omega)).mono ?_
      rintro e wc ⟨rfl, oc⟩
      have Ec := Lib.hid (own_only Ea.out oc (fun k hk hb => by have h1 := HS2.out k hb; have h2 := World.ownsRow.lt Ea.out k hk; omega))
      have Oc := Lib.hid (Oa.out.trans oc (fun b hb => .inr (by have := HS2.out b hb; omega)))
      have hsc := Oc.out.size
      clear oc
      obtain ⟨S2, hT1, hT2⟩ := own_list Ec.out
      have HT1 := Lib.hid hT1
      have HT2 := Lib.hid hT2
      clear hT1 hT2
      go_wp2_with fail
      refine (law0_OverInts2 S2 wr.heap.size A5 _ c5 _ _ (World.ownsRow.mono Ec.out hz4) hsc HT1.out (by omega)).mono ?_
      rintro e wd ⟨rfl, od⟩
      have Od := Lib.hid (ON.out.trans0 (Oc.out.trans od (fun b hb => .inr (by have := HT2.out b hb; omega))))
      clear od
      go_wp2
      go_ret
      exact ⟨rfl, Od.out⟩
end Go.Proofs.Ytfafpggppbolkaa
