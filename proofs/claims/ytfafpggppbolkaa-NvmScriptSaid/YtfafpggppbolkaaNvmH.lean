/- Counts, and the copy of a device. -/
import Derived.Test.YtfafpggppbolkaaNvmN
import Derived.StillTailTactics
set_option maxRecDepth 100000
namespace Go.Proofs.Ytfafpggppbolkaa
open Go.RowKit Go.Proofs.FuMem Go.Proofs.FuNvm Go.Proofs.FuCode
theorem drawn_only {w wd : World} (h : ({ w with drawn := w.drawn + 1 } : World) = wd) : Only [] w wd := by subst h; exact (Only.refl _ _).drew
abbrev countsV (D : Dev) : Value := .agg #[.int .i64 D.stores, .int .i64 D.flushes, .int .i64 D.fences, .int .i64 D.backs, .int .i64 D.cuts]
set_option maxHeartbeats 1000000 in
theorem nvm_Counts (g cb cap : Nat) (D : Dev) (w : World) (hd : DevAt w g cb cap D) :
    Calls Try.prog 55 #[.pointer (some ⟨g, 0, none⟩)] w fun e w' => e = .returned (countsV D) ∧ Only [] w w' := by
  have o1 : Only [] w (w.alloc (.cells #[.int .i64 0, .int .i64 0, .int .i64 0, .int .i64 0, .int .i64 0] 74)) := (Only.refl _ _).alloc _
  have hb1 := Blk.new w 74 #[.int .i64 0, .int .i64 0, .int .i64 0, .int .i64 0, .int .i64 0]
  have HD := Lib.hid (hd.only0 o1)
  have O1 := Lib.hid o1
  have HB := Lib.hid hb1
  clear o1 hb1 hd
  obtain ⟨L, s1, s2, s3, s4, s5⟩ := D
  go_enter Try.func55, Try.ntmps55
  go_wp2_with fail
  generalize w.alloc (.cells #[.int .i64 0, .int .i64 0, .int .i64 0, .int .i64 0, .int .i64 0] 74) = w1 at *
  refine wp_region_still_tail 21 (by kernel_rfl) (by kernel_rfl) ?_
  simp only [List.take_succ_cons, List.take_zero, List.drop_succ_cons, List.drop_zero]
  generalize hwd : ({ w1 with drawn := w1.drawn + 1 } : World) = wd
  have OD := Lib.hid (drawn_only hwd)
  clear hwd
  have hdd := HD.out.only0 OD.out
  have c1 : wd.cell? ⟨g, 1, none⟩ = some (.int .i64 s1) := hdd.cell 1
  have c2 : wd.cell? ⟨g, 2, none⟩ = some (.int .i64 s2) := hdd.cell 2
  have c3 : wd.cell? ⟨g, 3, none⟩ = some (.int .i64 s3) := hdd.cell 3
  have c4 : wd.cell? ⟨g, 4, none⟩ = some (.int .i64 s4) := hdd.cell 4
  have c5 : wd.cell? ⟨g, 5, none⟩ = some (.int .i64 s5) := hdd.cell 5
  have hbd : Blk wd w.heap.size 74 #[.int .i64 0, .int .i64 0, .int .i64 0, .int .i64 0, .int .i64 0] := HB.out.only OD.out (by simp)
  clear hdd
  repeat still_step
  still_call (Calls.flip (int64_Load g 1 s1 wd c1))
  repeat still_step
  still_call (Calls.flip (int64_Load g 2 s2 wd c2))
  repeat still_step
  still_call (Calls.flip (int64_Load g 3 s3 wd c3))
  repeat still_step
  still_call (Calls.flip (int64_Load g 4 s4 wd c4))
  repeat still_step
  still_call (Calls.flip (int64_Load g 5 s5 wd c5))
  repeat still_step
  refine wpStill_nil ?_
  refine wpList_store_blk rfl 74 (.tmp 2) (.tmp 30) rfl w.heap.size 0 #[.int .i64 s1, .int .i64 s2, .int .i64 s3, .int .i64 s4, .int .i64 s5] rfl rfl 74 _ hbd (by simp) (by kernel_rfl) (by kernel_rfl) ?_
  intro w2 hb2 ho2 hs2
  have hb2' : Blk w2 w.heap.size 74 #[.int .i64 s1, .int .i64 s2, .int .i64 s3, .int .i64 s4, .int .i64 s5] := hb2
  go_wp2
  refine bodyPost_ret (results_cell_row rfl _ _ w.heap.size 74 _ _ _ rfl hb2' Try.underlying74 rfl (by kernel_rfl)) rfl ⟨rfl, (O1.out.trans0 OD.out).trans ho2 (by simp)⟩
theorem countsZero : (Try.prog.info? 74).map (·.zero) = some (some (.agg #[.int .i64 0, .int .i64 0, .int .i64 0, .int .i64 0, .int .i64 0])) := by kernel_rfl
theorem clone_cells (g cb cap : Nat) (D : Dev) (w : World) (hd : DevAt w g cb cap D) :
    Calls Try.prog 77 #[.slice (some ⟨cb, 0, none⟩) D.lines.length cap] w fun e w' => ∃ cb2 cap2, e = .returned (.slice (some ⟨cb2, 0, none⟩) D.lines.length cap2) ∧ w.heap.size ≤ cb2 ∧ D.lines.length ≤ cap2 ∧
      (∃ cs, Blk w' cb2 94 cs ∧ cs.toList.take (D.lines.length * 193) = flat D.lines) ∧ Only [] w w' := by
  obtain ⟨ci, cz, hi, hz, hs, hc, hby⟩ := cellZero
  have hf := hd.few
  have on0 : Only [] w (w.alloc (.cells #[] 94)) := (Only.refl _ _).alloc _
  have hown : (w.alloc (.cells #[] 94)).ownsRow w.heap.size 94 193 (.slice (some ⟨w.heap.size, 0, none⟩) 0 0) 0 [] :=
    ⟨rfl, .inr ⟨_, 0, #[], rfl, Nat.le_refl _, heap_alloc_new w _, Nat.le_refl _, Nat.zero_le _, rfl, rfl⟩⟩
  have hd0 := hd.only0 on0
  have hnews : ∀ j u, (flat D.lines)[j]? = some u → (w.alloc (.cells #[] 94)).cell? ((⟨cb, 0, none⟩ : Addr).add j) = some u := fun j u hu => by
    obtain ⟨cs, hb, hp⟩ := hd0.body
    rw [Addr.add_lit, hb.cell, Nat.zero_add]
    rw [← hp] at hu
    have hj := (List.getElem?_eq_some_iff.1 hu).1
    rw [List.length_take] at hj
    rw [List.getElem?_take_of_lt (by omega)] at hu
    rw [← Array.getElem?_toList]
    exact hu
  obtain ⟨v, w', hr, ho, hg, hnil, hblk⟩ := run_append_own_at (P := Try.prog) (w.alloc (.cells #[] 94)) w.heap.size 95 95 94 ci cz 193 193 Try.underlying95 hi hz hs hby (by rw [hc]; rfl) (by omega) _ 0 [] hown ⟨cb, 0, none⟩ D.lines.length cap (flat D.lines) (flat_length hd.ok) hnews (by
    intro u hu
    unfold flat at hu
    obtain ⟨x, hx, hu⟩ := List.mem_flatMap.1 hu
    exact cellsOf_one x u hu) (by unfold maxLen; omega) (by omega) (by simp)
  rw [Nat.zero_add, List.nil_append] at ho
  have hon : Only [] w w' := on0.trans (Only.of_grown hg (S := [w.heap.size]) (fun k hk => by simp [Value.ownBlock] at hk; subst hk; exact .inl (by simp))) (by simp)
  rcases ho.2 with ⟨e1, _⟩ | ⟨g2, cap2, cur, rfl, hbg, hg2, hnc, hcm, hcs, htake⟩
  · have := hnil.1 e1
    simp at this
  · have he := Lib.run_eql_slice_nil (P := Try.prog) w 95 94 (some ⟨cb, 0, none⟩) D.lines.length cap 0 0 Try.underlying95
    have H1 := Lib.hid (show Blk w' g2 94 cur from hg2)
    have H2 := Lib.hid htake
    have H3 := Lib.hid hon
    clear hd hd0 hnews on0 hown hi hz hs hc hby ho hg hnil hblk hg2 hcs htake hon
    generalize D.lines.length = m at *
    go_enter Try.func77, Try.ntmps77
    go_wp2_with (at_builtin; refine wpList_append_run _ rfl (.tmp 5) (.tmp 6) 95 rfl _ _ rfl rfl _ _ hr ?_)
    go_ret
    exact ⟨g2, cap2, rfl, hbg, hnc, ⟨cur, H1.out, H2.out⟩, H3.out⟩
set_option maxHeartbeats 2000000 in
theorem nvm_Copy (g cb cap : Nat) (D : Dev) (w : World) (hd : DevAt w g cb cap D) :
    Calls Try.prog 51 #[.pointer (some ⟨g, 0, none⟩)] w fun e w' => ∃ g2 cb2 cap2, e = .returned (.pointer (some ⟨g2, 0, none⟩)) ∧ DevAt w' g2 cb2 cap2 D ∧ Only [] w w' ∧ w.heap.size ≤ g2 ∧ w.heap.size ≤ cb2 := by
  have hc : w.cell? ⟨g, 0, none⟩ = some (.slice (some ⟨cb, 0, none⟩) D.lines.length cap) := hd.cell 0
  have HCL := Lib.hid (clone_cells g cb cap D w hd)
  have HF := Lib.hid hd.few
  have HOK := Lib.hid hd.ok
  have HD := Lib.hid hd
  clear hd
  obtain ⟨m, hm⟩ : ∃ m, m = D.lines.length := ⟨_, rfl⟩
  rw [← hm] at hc HCL HF
  have HM := Lib.hid hm
  clear hm
  go_enter Try.func51, Try.ntmps51
  go_wp2_with fail
  refine HCL.out.mono ?_
  rintro e w1 ⟨cb2, cap2, rfl, f1, f2, hbody, o1⟩
  have HB := Lib.hid hbody
  have O1 := Lib.hid o1
  have hs1 := o1.size
  clear hbody o1
  go_wp2_with fail
  have o2 : Only [] w1 (w1.alloc (.cells #[.slice (some ⟨cb2, 0, none⟩) m cap2, .int .i64 0, .int .i64 0, .int .i64 0, .int .i64 0, .int .i64 0] 104)) := (Only.refl _ _).alloc _
  have hb2 := Blk.new w1 104 #[.slice (some ⟨cb2, 0, none⟩) m cap2, .int .i64 0, .int .i64 0, .int .i64 0, .int .i64 0, .int .i64 0]
  have HX := Lib.hid (nvm_Counts g cb cap D _ (HD.out.only0 (O1.out.trans0 o2)))
  have O2 := Lib.hid o2
  have HB2 := Lib.hid hb2
  clear o2 hb2
  generalize w1.alloc (.cells #[.slice (some ⟨cb2, 0, none⟩) m cap2, .int .i64 0, .int .i64 0, .int .i64 0, .int .i64 0, .int .i64 0] 104) = w2 at *
  refine HX.out.mono ?_
  rintro e w3 ⟨rfl, o3⟩
  obtain ⟨L, s1, s2, s3, s4, s5⟩ := D
  have HC0 := Lib.hid (HB2.out.only o3 (by simp))
  have O3 := Lib.hid (((O1.out.trans0 O2.out).trans0 o3))
  have OB := Lib.hid (O2.out.trans0 o3)
  have hlt := HC0.out.lt
  clear o3
  go_wp2_with (first
    | ((with_reducible show wpList _ _ _ (Oper.mk (some 4) _ _ _ _ _ :: _) _ _); refine wpList_alloc_blk rfl 74 rfl _ countsZero ?_; intro w4 hb4 ho4 hs4; have hb4' : Blk w4 w3.heap.size 74 #[.int .i64 0, .int .i64 0, .int .i64 0, .int .i64 0, .int .i64 0] := hb4; clear hb4)
    | ((with_reducible show wpList _ _ _ (Oper.mk none _ _ _ _ _ :: _) _ _); refine wpList_store_blk rfl 74 (.tmp 4) (.tmp 15) rfl w3.heap.size 0 #[.int .i64 s1, .int .i64 s2, .int .i64 s3, .int .i64 s4, .int .i64 s5] rfl rfl 74 _ hb4' (by simp) (by kernel_rfl) (by kernel_rfl) ?_; intro w5 hb5 ho5 hs5))
  have HN := Lib.hid (show Blk w5 w3.heap.size 74 #[.int .i64 s1, .int .i64 s2, .int .i64 s3, .int .i64 s4, .int .i64 s5] from hb5)
  have hne : w1.heap.size ≠ w3.heap.size := by omega
  have OA := Lib.hid (ho4.trans ho5 (by simp))
  have HC := Lib.hid (HC0.out.only OA.out (by simp))
  have ON := Lib.hid ((O3.out.trans0 OA.out))
  have OC := Lib.hid (OB.out.trans0 OA.out)
  clear hb4' ho4 hs4 hb5 ho5 hs5 HC0 OA
  go_wp2_with fail
  refine wp_region_still_tail 6 (by kernel_rfl) (by kernel_rfl) ?_
  simp only [List.take_succ_cons, List.take_zero, List.drop_succ_cons, List.drop_zero]
  generalize hwd : ({ w5 with drawn := w5.drawn + 1 } : World) = wd1
  have OD := Lib.hid (drawn_only hwd)
  clear hwd
  have cn : wd1.cell? ⟨w3.heap.size, 0, none⟩ = some (.int .i64 s1) := (HN.out.only OD.out (by simp)).cell 0
  have hcd := HC.out.only OD.out (by simp)
  have cc : wd1.cell? ⟨w1.heap.size, 1, none⟩ = some (.int .i64 0) := hcd.cell 1
  have cf := hcd.frozen 1
  have HC2 := Lib.hid (show Blk (wd1.setCell ⟨w1.heap.size, 1, none⟩ (.int .i64 s1)) w1.heap.size 104 #[.slice (some ⟨cb2, 0, none⟩) m cap2, .int .i64 s1, .int .i64 0, .int .i64 0, .int .i64 0, .int .i64 0] from hcd.set 1 (.int .i64 s1))
  have o8 : Only [w1.heap.size] wd1 (wd1.setCell ⟨w1.heap.size, 1, none⟩ (.int .i64 s1)) := (Only.refl _ _).setCell (.inl (by simp)) _
  have ON2 := Lib.hid ((ON.out.trans0 OD.out).trans o8 (by intro b hb; simp at hb; omega))
  have OC2 := Lib.hid ((OC.out.trans0 OD.out).trans o8 (by intro b hb; simp at hb; omega))
  have HN2 := Lib.hid ((HN.out.only OD.out (by simp)).only o8 (by simp; omega))
  clear hcd o8 HC HN ON OC OD
  have HC := HC2
  have HN := HN2
  have ON := ON2
  have OC := OC2
  clear HC2 HN2 ON2 OC2
  repeat still_step
  refine wpStill_nil ?_
  go_wp2_with fail
  refine (int64_Store w1.heap.size 1 _ s1 wd1 cc cf).mono ?_
  rintro e w7 ⟨rfl, he1⟩
  rw [he1] at HC HN ON OC
  clear cc cf cn he1
  go_wp2_with fail
  refine wp_region_still_tail 6 (by kernel_rfl) (by kernel_rfl) ?_
  simp only [List.take_succ_cons, List.take_zero, List.drop_succ_cons, List.drop_zero]
  generalize hwd : ({ w7 with drawn := w7.drawn + 1 } : World) = wd2
  have OD := Lib.hid (drawn_only hwd)
  clear hwd
  have cn : wd2.cell? ⟨w3.heap.size, 1, none⟩ = some (.int .i64 s2) := (HN.out.only OD.out (by simp)).cell 1
  have hcd := HC.out.only OD.out (by simp)
  have cc : wd2.cell? ⟨w1.heap.size, 2, none⟩ = some (.int .i64 0) := hcd.cell 2
  have cf := hcd.frozen 2
  have HC2 := Lib.hid (show Blk (wd2.setCell ⟨w1.heap.size, 2, none⟩ (.int .i64 s2)) w1.heap.size 104 #[.slice (some ⟨cb2, 0, none⟩) m cap2, .int .i64 s1, .int .i64 s2, .int .i64 0, .int .i64 0, .int .i64 0] from hcd.set 2 (.int .i64 s2))
  have o8 : Only [w1.heap.size] wd2 (wd2.setCell ⟨w1.heap.size, 2, none⟩ (.int .i64 s2)) := (Only.refl _ _).setCell (.inl (by simp)) _
  have ON2 := Lib.hid ((ON.out.trans0 OD.out).trans o8 (by intro b hb; simp at hb; omega))
  have OC2 := Lib.hid ((OC.out.trans0 OD.out).trans o8 (by intro b hb; simp at hb; omega))
  have HN2 := Lib.hid ((HN.out.only OD.out (by simp)).only o8 (by simp; omega))
  clear hcd o8 HC HN ON OC OD
  have HC := HC2
  have HN := HN2
  have ON := ON2
  have OC := OC2
  clear HC2 HN2 ON2 OC2
  repeat still_step
  refine wpStill_nil ?_
  go_wp2_with fail
  refine (int64_Store w1.heap.size 2 _ s2 wd2 cc cf).mono ?_
  rintro e w9 ⟨rfl, he2⟩
  rw [he2] at HC HN ON OC
  clear cc cf cn he2
  go_wp2_with fail
  refine wp_region_still_tail 6 (by kernel_rfl) (by kernel_rfl) ?_
  simp only [List.take_succ_cons, List.take_zero, List.drop_succ_cons, List.drop_zero]
  generalize hwd : ({ w9 with drawn := w9.drawn + 1 } : World) = wd3
  have OD := Lib.hid (drawn_only hwd)
  clear hwd
  have cn : wd3.cell? ⟨w3.heap.size, 2, none⟩ = some (.int .i64 s3) := (HN.out.only OD.out (by simp)).cell 2
  have hcd := HC.out.only OD.out (by simp)
  have cc : wd3.cell? ⟨w1.heap.size, 3, none⟩ = some (.int .i64 0) := hcd.cell 3
  have cf := hcd.frozen 3
  have HC2 := Lib.hid (show Blk (wd3.setCell ⟨w1.heap.size, 3, none⟩ (.int .i64 s3)) w1.heap.size 104 #[.slice (some ⟨cb2, 0, none⟩) m cap2, .int .i64 s1, .int .i64 s2, .int .i64 s3, .int .i64 0, .int .i64 0] from hcd.set 3 (.int .i64 s3))
  have o8 : Only [w1.heap.size] wd3 (wd3.setCell ⟨w1.heap.size, 3, none⟩ (.int .i64 s3)) := (Only.refl _ _).setCell (.inl (by simp)) _
  have ON2 := Lib.hid ((ON.out.trans0 OD.out).trans o8 (by intro b hb; simp at hb; omega))
  have OC2 := Lib.hid ((OC.out.trans0 OD.out).trans o8 (by intro b hb; simp at hb; omega))
  have HN2 := Lib.hid ((HN.out.only OD.out (by simp)).only o8 (by simp; omega))
  clear hcd o8 HC HN ON OC OD
  have HC := HC2
  have HN := HN2
  have ON := ON2
  have OC := OC2
  clear HC2 HN2 ON2 OC2
  repeat still_step
  refine wpStill_nil ?_
  go_wp2_with fail
  refine (int64_Store w1.heap.size 3 _ s3 wd3 cc cf).mono ?_
  rintro e w11 ⟨rfl, he3⟩
  rw [he3] at HC HN ON OC
  clear cc cf cn he3
  go_wp2_with fail
  refine wp_region_still_tail 6 (by kernel_rfl) (by kernel_rfl) ?_
  simp only [List.take_succ_cons, List.take_zero, List.drop_succ_cons, List.drop_zero]
  generalize hwd : ({ w11 with drawn := w11.drawn + 1 } : World) = wd4
  have OD := Lib.hid (drawn_only hwd)
  clear hwd
  have cn : wd4.cell? ⟨w3.heap.size, 3, none⟩ = some (.int .i64 s4) := (HN.out.only OD.out (by simp)).cell 3
  have hcd := HC.out.only OD.out (by simp)
  have cc : wd4.cell? ⟨w1.heap.size, 4, none⟩ = some (.int .i64 0) := hcd.cell 4
  have cf := hcd.frozen 4
  have HC2 := Lib.hid (show Blk (wd4.setCell ⟨w1.heap.size, 4, none⟩ (.int .i64 s4)) w1.heap.size 104 #[.slice (some ⟨cb2, 0, none⟩) m cap2, .int .i64 s1, .int .i64 s2, .int .i64 s3, .int .i64 s4, .int .i64 0] from hcd.set 4 (.int .i64 s4))
  have o8 : Only [w1.heap.size] wd4 (wd4.setCell ⟨w1.heap.size, 4, none⟩ (.int .i64 s4)) := (Only.refl _ _).setCell (.inl (by simp)) _
  have ON2 := Lib.hid ((ON.out.trans0 OD.out).trans o8 (by intro b hb; simp at hb; omega))
  have OC2 := Lib.hid ((OC.out.trans0 OD.out).trans o8 (by intro b hb; simp at hb; omega))
  have HN2 := Lib.hid ((HN.out.only OD.out (by simp)).only o8 (by simp; omega))
  clear hcd o8 HC HN ON OC OD
  have HC := HC2
  have HN := HN2
  have ON := ON2
  have OC := OC2
  clear HC2 HN2 ON2 OC2
  repeat still_step
  refine wpStill_nil ?_
  go_wp2_with fail
  refine (int64_Store w1.heap.size 4 _ s4 wd4 cc cf).mono ?_
  rintro e w13 ⟨rfl, he4⟩
  rw [he4] at HC HN ON OC
  clear cc cf cn he4
  go_wp2_with fail
  refine wp_region_still_tail 6 (by kernel_rfl) (by kernel_rfl) ?_
  simp only [List.take_succ_cons, List.take_zero, List.drop_succ_cons, List.drop_zero]
  generalize hwd : ({ w13 with drawn := w13.drawn + 1 } : World) = wd5
  have OD := Lib.hid (drawn_only hwd)
  clear hwd
  have cn : wd5.cell? ⟨w3.heap.size, 4, none⟩ = some (.int .i64 s5) := (HN.out.only OD.out (by simp)).cell 4
  have hcd := HC.out.only OD.out (by simp)
  have cc : wd5.cell? ⟨w1.heap.size, 5, none⟩ = some (.int .i64 0) := hcd.cell 5
  have cf := hcd.frozen 5
  have HC2 := Lib.hid (show Blk (wd5.setCell ⟨w1.heap.size, 5, none⟩ (.int .i64 s5)) w1.heap.size 104 #[.slice (some ⟨cb2, 0, none⟩) m cap2, .int .i64 s1, .int .i64 s2, .int .i64 s3, .int .i64 s4, .int .i64 s5] from hcd.set 5 (.int .i64 s5))
  have o8 : Only [w1.heap.size] wd5 (wd5.setCell ⟨w1.heap.size, 5, none⟩ (.int .i64 s5)) := (Only.refl _ _).setCell (.inl (by simp)) _
  have ON2 := Lib.hid ((ON.out.trans0 OD.out).trans o8 (by intro b hb; simp at hb; omega))
  have OC2 := Lib.hid ((OC.out.trans0 OD.out).trans o8 (by intro b hb; simp at hb; omega))
  have HN2 := Lib.hid ((HN.out.only OD.out (by simp)).only o8 (by simp; omega))
  clear hcd o8 HC HN ON OC OD
  have HC := HC2
  have HN := HN2
  have ON := ON2
  have OC := OC2
  clear HC2 HN2 ON2 OC2
  repeat still_step
  refine wpStill_nil ?_
  go_wp2_with fail
  refine (int64_Store w1.heap.size 5 _ s5 wd5 cc cf).mono ?_
  rintro e w15 ⟨rfl, he5⟩
  rw [he5] at HC HN ON OC
  clear cc cf cn he5
  go_wp2
  go_ret
  obtain ⟨cs, hb, htk⟩ := HB.out
  rw [HM.out] at htk
  refine ⟨w1.heap.size, cb2, cap2, rfl, ⟨?_, ⟨cs, hb.only OC.out (by simp), htk⟩, ?_, HOK.out, ?_, ?_⟩, ON.out, hs1, f1⟩
  · have := HC.out
    rw [HM.out] at this
    exact this
  · have := hb.lt
    omega
  · have := HF.out
    rw [HM.out] at this
    exact this
  · have := f2
    rw [HM.out] at this
    exact this
end Go.Proofs.Ytfafpggppbolkaa
