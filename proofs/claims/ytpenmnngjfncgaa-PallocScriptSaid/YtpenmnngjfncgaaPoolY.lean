/- The reference of chapter 7: Mark; OverTaken; alike. -/
import Derived.Test.YtpenmnngjfncgaaPoolX
namespace Go.Proofs.FuPool
open Go.Proofs.FuClass
theorem free_out {P : Pool} {c : Int} (h : many c = 0) : freeOf P c = [] := by
  refine List.eq_nil_iff_forall_not_mem.2 fun x hx => ?_
  obtain ⟨i, s, k, _, _, h1, _⟩ := mem_freeOf.1 hx
  omega
end Go.Proofs.FuPool
namespace Go.Proofs.Ytpenmnngjfncgaa
open Go.RowKit Go.Proofs.FuMem Go.Proofs.FuClass Go.Proofs.FuPool
set_option maxRecDepth 100000
theorem law0_OverTaken (S : List Nat) (base : Nat) (A : Option Addr) (n c : Nat) (xs : List Value) (w : World) (h : w.ownsRow base 32 2 (.slice A n c) n xs) (hbase : base ≤ w.heap.size) (hS : ∀ k, (Value.slice A n c).ownBlock = some k → k ∈ S) (hn : n ≤ 1000000) :
    Calls Try.prog 51 #[.slice A n c] w fun e w' => e = .returned (.tuple #[]) ∧ Only S w w' := by
  obtain ⟨i0, hi, hz0, hz1, hz2⟩ := info_parts Try.takenInfo
  have HI := Lib.hid hi
  have HZ0 := Lib.hid hz0
  have HZ1 := Lib.hid hz1
  have HZ2 := Lib.hid hz2
  have HO := Lib.hid h
  have HSS := Lib.hid hS
  clear hi hz0 hz1 hz2 h hS
  go_enter Try.func51, Try.ntmps51
  go_wp2
  go_loopw [2] (fun i wr => ∃ (j : Nat) (ys : List Value), j ≤ n ∧ i = .int .i64 j ∧ wr.ownsRow base 32 2 (.slice A n c) n ys ∧ Only S w wr) (fun i _ => n - (intOf i).toNat)
  case atStart => exact ⟨0, xs, Nat.zero_le _, rfl, HO.out, Only.refl _ _⟩
  case round =>
    obtain ⟨j, ys, hj, rfl, ho, on⟩ := hrel
    by_cases hlt : j < n
    · have y1 : (0 : Int) ≤ (j : Int) := by omega
      have y2 : (j : Int) < (n : Int) := by omega
      have y3 : decide ((j : Int) < (n : Int)) = true := by rw [decide_eq_true_eq]; omega
      obtain ⟨g, c2, he, hbg, hgl⟩ := ho.form (by omega)
      cases he
      have hyl : ys.length = n * 2 := ho.1
      have c0 := World.ownsRow.cellAt ho (j * 2) (by omega)
      have c1 := World.ownsRow.cellAt ho (j * 2 + 1) (by omega)
      rw [List.getElem?_eq_getElem (by omega)] at c0 c1
      have f0 := World.ownsRow.frozenAt ho (j * 2)
      have f1 := World.ownsRow.frozenAt ho (j * 2 + 1)
      have h1 := (World.ownsRow.stored ho (j * 2) (.int .i64 (-9))).1
      have h2 := (World.ownsRow.stored h1 (j * 2 + 1) (.int .i64 (-9))).1
      have o2 := (on.setCell (p := ⟨g, j * 2, none⟩) (.inl (HSS.out g rfl)) (.int .i64 (-9))).setCell (p := ⟨g, j * 2 + 1, none⟩) (.inl (HSS.out g rfl)) (.int .i64 (-9))
      have H2 := Lib.hid h2
      have O2 := Lib.hid o2
      generalize ys[j * 2] = va at *
      generalize ys[j * 2 + 1] = vb at *
      clear h1 h2 o2 ho on hyl
      go_wp2
      go_roundw
      · exact ⟨j + 1, _, by omega, by simp, H2.out, O2.out⟩
      · simp [intOf]
        omega
    · obtain rfl : j = n := by omega
      have y3 : decide ((j : Int) < (j : Int)) = false := by simp
      obtain ⟨v', w', hr, _, hg2, _⟩ := run_append_own_at (P := Try.prog) (wr.alloc (.cells #[.int .i64 (-8), .int .i64 0] 32)) base 26 26 32 i0 _ 2 16 Try.underlying26 HI.out HZ0.out HZ1.out HZ2.out rfl (by omega) _ _ _ (ho.alloc _) ⟨wr.heap.size, 0, none⟩ 1 1 [.int .i64 (-8), .int .i64 0] rfl (new_cells (vs := [.int .i64 (-8), .int .i64 0])) (by intro u hu; simp at hu; rcases hu with rfl | rfl <;> rfl) (by unfold maxLen; omega) (by omega) (Nat.le_trans hbase (on.alloc _).size)
      have N2 := Lib.hid ((on.alloc _).trans (Only.of_grown hg2 (S := S) (fun k hk => .inl (HSS.out k hk))) (fun b hb => .inl hb))
      clear ho on hg2
      go_wp2_with (at_builtin; refine wpList_append_run _ rfl (.tmp 13) (.tmp 15) 26 rfl _ _ rfl rfl _ _ hr ?_)
      go_end0
      exact ⟨rfl, N2.out⟩
set_option maxHeartbeats 1000000 in
theorem ref7_Mark (X : List Nat) (rg : Nat) (P : Pool) (line c : Int) (w : World) (h : RefAt w X rg P.length (takenOf P)) (hX : ∀ b ∈ X, b < w.heap.size) (hP : Ok P) (h32 : P.length ≤ 32) :
    Calls Try.prog 30 #[.pointer (some ⟨rg, 0, none⟩), .int .i64 line, .int .i64 c] w fun e w' => e = .returned (.int .i64 (markA P line c)) ∧ RefAt w' X rg P.length (takenOf (markP P line c)) ∧ Only [rg] w w' := by
  have HSO := Lib.hid (fun w => ref4_SlabOf line w)
  have HHO := Lib.hid (fun w => ref5_Home line c w)
  have hb := slabOf_bd line
  have HREF := Lib.hid h
  by_cases hh : home line c = true
  case neg =>
    have hh2 : home line c = false := by simpa using hh
    have HE := Lib.hid (show markA P line c = 1 from if_pos (.inl hh2))
    have HN := Lib.hid (show markP P line c = P by unfold markP; rw [HE.out]; rfl)
    rw [hh2] at HHO
    clear h hh hh2
    generalize slabOf line = i at *
    go_enter Try.func30, Try.ntmps30
    go_wp2_with fail
    refine (HSO.out _).mono ?_
    rintro e w' ⟨rfl, rfl⟩
    go_wp2_with fail
    refine (HHO.out _).mono ?_
    rintro e w2 ⟨rfl, o2⟩
    have O2 := Lib.hid o2
    clear o2
    go_wp2
    go_ret
    exact ⟨by rw [HE.out]; rfl, by rw [HN.out]; exact HREF.out.only0 O2.out, O2.out.mono (by simp)⟩
  obtain ⟨i, k, hi, e1, hk, hl, c0, c3, e2⟩ := home_some hh
  have HX0 := Lib.hid (fun w (h : RefAt w X rg P.length (takenOf P)) => (show w.cell? ⟨rg, 0, none⟩ = some (.int .i64 P.length) by
    obtain ⟨_, A, n, c, hb, _⟩ := h
    exact hb.cell 0))
  by_cases hlt : i < P.length
  case neg =>
    have HE := Lib.hid (show markA P line c = 1 from if_pos (.inr (by omega)))
    have HN := Lib.hid (show markP P line c = P by unfold markP; rw [HE.out]; rfl)
    have q1 : decide ((P.length : Int) ≤ (i : Int)) = true := by rw [decide_eq_true_eq]; omega
    have q1n : decide (P.length ≤ i) = true := by rw [decide_eq_true_eq]; omega
    rw [hh] at HHO
    rw [e1] at HSO
    clear h hh hl e1 e2 hk
    go_enter Try.func30, Try.ntmps30
    go_wp2_with fail
    refine (HSO.out _).mono ?_
    rintro e w' ⟨rfl, rfl⟩
    go_wp2_with fail
    refine (HHO.out _).mono ?_
    rintro e w2 ⟨rfl, o2⟩
    have O2 := Lib.hid o2
    have R2 := Lib.hid (HREF.out.only0 o2)
    have x0 := HX0.out w2 R2.out
    clear o2
    go_wp2
    go_ret
    exact ⟨by rw [HE.out]; rfl, by rw [HN.out]; exact R2.out, O2.out.mono (by simp)⟩
  obtain ⟨s, hs⟩ : ∃ s, P[i]? = some s := ⟨_, List.getElem?_eq_getElem hlt⟩
  have hm := many_span ⟨c0, c3⟩
  have hcb := cls_bd hP hs
  have hmk : markA P line c = if (s.cls ≠ -1 ∧ s.cls ≠ c) ∨ s.at k = true then 7 else 0 := by
    unfold markA
    rw [if_neg (by rw [hh, e1]; simp; omega), e1, Int.toNat_natCast, hs, ← e1, e2]
    rfl
  have hmp : markA P line c = 0 → markP P line c = P.modify i fun s => s.take c k := fun h0 => by
    unfold markP
    rw [if_pos h0, e1, ← e1, e2, e1]
    rfl
  have q1 : decide ((P.length : Int) ≤ (i : Int)) = false := by rw [decide_eq_false_iff_not]; omega
  have q1n : decide (P.length ≤ i) = false := by rw [decide_eq_false_iff_not]; omega
  have HOF := Lib.hid (fun w h => ref7_Of X rg P line w h hP h32)
  have HCL := Lib.hid (fun w h => ref7_Class X rg P i s w h hP h32 hs)
  have hln : (takenOf P).length ≤ 256 := by have := blocksTo_length P P.length; unfold takenOf; omega
  have HPU := Lib.hid (fun w h hX => ref7_put X rg P.length (takenOf P) line c w h hX hln)
  rw [hh] at HHO
  rw [e1] at HSO
  -- the three kinds of slab
  by_cases hbusy : s.cls ≠ -1 ∧ s.cls ≠ c
  · have HE := Lib.hid (show markA P line c = 7 by rw [hmk, if_pos (.inl hbusy)])
    have HN := Lib.hid (show markP P line c = P by unfold markP; rw [HE.out]; rfl)
    have r1 : decide (0 ≤ s.cls) = true := by rw [decide_eq_true_eq]; omega
    have r2 : (s.cls != c) = true := by rw [bne_iff_ne]; exact hbusy.2
    clear h hh hl e1 e2 hk hs hmk hmp hbusy hcb
    generalize (ofA P line).1 = oc at *
    generalize s.cls = cl at *
    cases hof : (ofA P line).2 with
    | true =>
      rw [hof] at HOF
      clear hof
      go_enter Try.func30, Try.ntmps30
      go_wp2_with fail
      refine (HSO.out _).mono ?_
      rintro e w' ⟨rfl, rfl⟩
      go_wp2_with fail
      refine (HHO.out _).mono ?_
      rintro e w2 ⟨rfl, o2⟩
      have O2 := Lib.hid o2
      have R2 := Lib.hid (HREF.out.only0 o2)
      have x0 := HX0.out w2 R2.out
      clear o2
      go_wp2_with fail
      refine (HOF.out _ R2.out).mono ?_
      rintro e w' ⟨rfl, rfl⟩
      go_wp2
      go_ret
      exact ⟨by rw [HE.out]; rfl, by rw [HN.out]; exact R2.out, O2.out.mono (by simp)⟩
    | false =>
      rw [hof] at HOF
      clear hof
      go_enter Try.func30, Try.ntmps30
      go_wp2_with fail
      refine (HSO.out _).mono ?_
      rintro e w' ⟨rfl, rfl⟩
      go_wp2_with fail
      refine (HHO.out _).mono ?_
      rintro e w2 ⟨rfl, o2⟩
      have O2 := Lib.hid o2
      have R2 := Lib.hid (HREF.out.only0 o2)
      have x0 := HX0.out w2 R2.out
      clear o2
      go_wp2_with fail
      refine (HOF.out _ R2.out).mono ?_
      rintro e w' ⟨rfl, rfl⟩
      go_wp2_with fail
      refine (HCL.out _ R2.out).mono ?_
      rintro e w' ⟨rfl, rfl⟩
      go_wp2_with fail
      refine (HCL.out _ R2.out).mono ?_
      rintro e w' ⟨rfl, rfl⟩
      go_wp2
      go_ret
      exact ⟨by rw [HE.out]; rfl, by rw [HN.out]; exact R2.out, O2.out.mono (by simp)⟩
  by_cases hat : s.at k = true
  · have hcl : s.cls = c := by
      have := (hP s (List.mem_of_getElem? hs)).busy (by have := n_pos hat; omega)
      omega
    have hof := of_line hP h32 hs hcl hk
    rw [if_pos hat, ← hl] at hof
    have HE := Lib.hid (show markA P line c = 7 by rw [hmk, if_pos (.inr hat)])
    have HN := Lib.hid (show markP P line c = P by unfold markP; rw [HE.out]; rfl)
    rw [hof] at HOF
    clear h hh hl e1 e2 hk hs hmk hmp hbusy hcb hat hcl hof
    go_enter Try.func30, Try.ntmps30
    go_wp2_with fail
    refine (HSO.out _).mono ?_
    rintro e w' ⟨rfl, rfl⟩
    go_wp2_with fail
    refine (HHO.out _).mono ?_
    rintro e w2 ⟨rfl, o2⟩
    have O2 := Lib.hid o2
    have R2 := Lib.hid (HREF.out.only0 o2)
    have x0 := HX0.out w2 R2.out
    clear o2
    go_wp2_with fail
    refine (HOF.out _ R2.out).mono ?_
    rintro e w' ⟨rfl, rfl⟩
    go_wp2
    go_ret
    exact ⟨by rw [HE.out]; rfl, by rw [HN.out]; exact R2.out, O2.out.mono (by simp)⟩
  have hat2 : s.at k = false := by simpa using hat
  have HE := Lib.hid (show markA P line c = 0 by rw [hmk, if_neg (by rw [not_or]; exact ⟨hbusy, hat⟩)])
  have HN := Lib.hid (hmp HE.out)
  have htt := (taken_take hP h32 hs ⟨c0, c3⟩ hk hat2 (by omega)).2
  rw [← hl] at htt
  have HTT := Lib.hid htt
  have hof : ofA P line = (0, false) := by
    by_cases hcl : s.cls = c
    · have := of_line hP h32 hs hcl hk
      rw [if_neg hat, ← hl] at this
      exact this
    · refine of_none h32 fun x hx e => ?_
      have h1 := cls_mem h32 hs hx (by rw [e]; exact e1)
      obtain ⟨_, _, _, _, _, _, _, _, g1, g2, _⟩ := taken_place h32 hx
      omega
  rw [hof] at HOF
  have hcc : s.cls = -1 ∨ s.cls = c := by omega
  clear h hh hl e1 e2 hk hs hmk hmp hbusy hcb hat hat2 hof htt
  rcases hcc with hcl | hcl
  · rw [hcl] at HCL
    clear hcl
    go_enter Try.func30, Try.ntmps30
    go_wp2_with fail
    refine (HSO.out _).mono ?_
    rintro e w' ⟨rfl, rfl⟩
    go_wp2_with fail
    refine (HHO.out _).mono ?_
    rintro e w2 ⟨rfl, o2⟩
    have O2 := Lib.hid o2
    have R2 := Lib.hid (HREF.out.only0 o2)
    have x0 := HX0.out w2 R2.out
    have HX2 := Lib.hid (show ∀ b ∈ X, b < w2.heap.size from fun b hb => Nat.lt_of_lt_of_le (hX b hb) o2.size)
    clear o2
    go_wp2_with fail
    refine (HOF.out _ R2.out).mono ?_
    rintro e w' ⟨rfl, rfl⟩
    go_wp2_with fail
    refine (HCL.out _ R2.out).mono ?_
    rintro e w' ⟨rfl, rfl⟩
    go_wp2_with fail
    refine (HPU.out w2 R2.out HX2.out).mono ?_
    rintro e w3 ⟨rfl, r3, o3⟩
    have R3 := Lib.hid r3
    have O3 := Lib.hid ((O2.out.mono (T := [rg]) (by simp)).trans o3 (by intro b hb; exact .inl hb))
    clear r3 o3
    go_wp2
    go_ret
    exact ⟨by rw [HE.out]; rfl, by rw [HN.out, HTT.out]; exact R3.out, O3.out⟩
  · rw [hcl] at HCL
    have r1 : decide (0 ≤ c) = true := by rw [decide_eq_true_eq]; omega
    have r2 : (c != c) = false := by simp
    clear hcl
    go_enter Try.func30, Try.ntmps30
    go_wp2_with fail
    refine (HSO.out _).mono ?_
    rintro e w' ⟨rfl, rfl⟩
    go_wp2_with fail
    refine (HHO.out _).mono ?_
    rintro e w2 ⟨rfl, o2⟩
    have O2 := Lib.hid o2
    have R2 := Lib.hid (HREF.out.only0 o2)
    have x0 := HX0.out w2 R2.out
    have HX2 := Lib.hid (show ∀ b ∈ X, b < w2.heap.size from fun b hb => Nat.lt_of_lt_of_le (hX b hb) o2.size)
    clear o2
    go_wp2_with fail
    refine (HOF.out _ R2.out).mono ?_
    rintro e w' ⟨rfl, rfl⟩
    go_wp2_with fail
    refine (HCL.out _ R2.out).mono ?_
    rintro e w' ⟨rfl, rfl⟩
    go_wp2_with fail
    refine (HCL.out _ R2.out).mono ?_
    rintro e w' ⟨rfl, rfl⟩
    go_wp2_with fail
    refine (HPU.out w2 R2.out HX2.out).mono ?_
    rintro e w3 ⟨rfl, r3, o3⟩
    have R3 := Lib.hid r3
    have O3 := Lib.hid ((O2.out.mono (T := [rg]) (by simp)).trans o3 (by intro b hb; exact .inl hb))
    clear r3 o3
    go_wp2
    go_ret
    exact ⟨by rw [HE.out]; rfl, by rw [HN.out, HTT.out]; exact R3.out, O3.out⟩
end Go.Proofs.Ytpenmnngjfncgaa
