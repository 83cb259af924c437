/- Law 7: the walk of PallocScript. -/
import Derived.Test.YtpenmnngjfncgaaPoolZ
import Derived.Test.YtpenmnngjfncgaaLaw2
import Derived.Deep.RegionHeld3
namespace Go.Proofs.Ytpenmnngjfncgaa
open Go.RowKit Go.Proofs.FuMem Go.Proofs.FuClass Go.Proofs.FuPool
set_option maxRecDepth 100000
theorem taken_newPool (n : Nat) : takenOf (newPool n) = [] := by
  refine List.eq_nil_iff_forall_not_mem.2 fun x hx => ?_
  obtain ⟨i, s, k, hs, _, h2, _⟩ := mem_takenOf.1 hx
  have : s = whole := (List.mem_replicate.1 (List.mem_of_getElem? hs)).2
  subst this
  have := n_zero (s := whole) rfl k
  rw [h2] at this
  cases this
set_option maxHeartbeats 3000000 in
theorem walk_PallocScript (slabs : Int) (A : Option Addr) (n c : Nat) (xs : List Deed) (w : World) (_h1 : -9223372036854775808 ≤ slabs ∧ slabs ≤ 9223372036854775807) (h : Acts w A n xs) (_hc : n ≤ c) :
    Calls Try.prog 9 #[.int .i64 slabs, .slice A n c] w fun e w' => e = .returned (.bool true) ∧ Only [] w w' := by
  have O0 := Lib.hid (Only.refl [] w)
  by_cases hbig : 60 < n
  · have q0 : decide ((60 : Int) < (n : Int)) = true := by rw [decide_eq_true_eq]; omega
    clear h
    go_enter Try.func9, Try.ntmps9
    go_wp2_with fail
    refine (law7_awake _).mono ?_
    rintro e wz ⟨rfl, oz⟩
    have OZ := Lib.hid (O0.out.trans0 oz)
    clear oz
    go_wp2
    go_ret
    exact ⟨rfl, OZ.out⟩
  have q0 : decide ((60 : Int) < (n : Int)) = false := by rw [decide_eq_false_iff_not]; omega
  have hn : n ≤ 60 := by omega
  clear hbig
  by_cases hsl : slabs < 1 ∨ 32 < slabs
  · have HN1 := Lib.hid (fun w => pool_New_no slabs w hsl)
    have HN2 := Lib.hid (fun w => ref7_New_no slabs w hsl)
    have HNU := Lib.hid (fun w => law0_Num 2 w)
    clear h hsl
    go_enter Try.func9, Try.ntmps9
    go_wp2_with fail
    refine (HN1.out _).mono ?_
    rintro e w' ⟨rfl, rfl⟩
    go_wp2_with fail
    refine (HN2.out _).mono ?_
    rintro e w' ⟨rfl, rfl⟩
    go_wp2_with fail
    refine (HNU.out _).mono ?_
    rintro e w' ⟨rfl, rfl⟩
    go_wp2_with fail
    refine (law7_awake _).mono ?_
    rintro e wz ⟨rfl, oz⟩
    have OZ := Lib.hid (O0.out.trans0 oz)
    clear oz
    go_wp2
    go_ret
    exact ⟨rfl, OZ.out⟩
  obtain ⟨N, rfl⟩ : ∃ N : Nat, slabs = N := ⟨slabs.toNat, by omega⟩
  have hN : 1 ≤ N ∧ N ≤ 32 := by omega
  have HN1 := Lib.hid (fun w => pool_New N w hN.1 hN.2)
  have HN2 := Lib.hid (fun X w hX => ref7_New N X w hN.1 hN.2 hX)
  have HNU := Lib.hid (fun w => law0_Num 0 w)
  have HX := Lib.hid h
  have HXL := Lib.hid h.1
  have HTN := Lib.hid (taken_newPool N)
  have HLN0 := Lib.hid (show (newPool N).length = N by simp [newPool])
  have HOKJ := Lib.hid (fun j => playP_ok (newPool_ok N) (show (newPool N).length ≤ 32 by simp [newPool]; omega) (xs.take j))
  generalize newPool N = P0 at *
  clear h hsl
  go_enter Try.func9, Try.ntmps9
  go_wp2_with fail
  refine (HN1.out w).mono ?_
  rintro e w1 ⟨g, sb, rfl, p1, o1, hg, hs⟩
  have hg1 := p1.ltg
  have hs1 := p1.lts
  have hgsb := p1.ne
  have P1 := Lib.hid p1
  have O1 := Lib.hid o1
  clear p1 o1
  go_wp2_with fail
  refine (HN2.out [sb] w1 (by intro b hb; simp at hb; omega)).mono ?_
  rintro e w2 ⟨rg, rfl, r2, o2, hr⟩
  have P2 := Lib.hid (P1.out.only0 o2)
  have R2 : Hid (RefAt w2 [sb] rg P0.length (takenOf P0)) := Lib.hid (by rw [HTN.out, HLN0.out]; exact r2)
  have O2 := Lib.hid (O1.out.trans0 o2)
  have S2 := Lib.hid (show w1.heap.size ≤ w2.heap.size from o2.size)
  have hrr : rg < w2.heap.size := by
    obtain ⟨_, _, _, _, hb, _⟩ := r2
    exact hb.lt
  have HW2 := Lib.hid hrr
  have hgr : w.heap.size ≤ rg := Nat.le_trans O1.out.size hr
  clear r2 o2
  go_wp2_with fail
  refine (HNU.out _).mono ?_
  rintro e w' ⟨rfl, rfl⟩
  go_wp2
  go_loopw [9] (fun kv wr => ∃ j : Nat, j ≤ n ∧ kv = .int .i64 j ∧ PoolAt wr g sb (playP P0 (xs.take j)) ∧ RefAt wr [sb] rg (playP P0 (xs.take j)).length (takenOf (playP P0 (xs.take j))) ∧ Only [] w wr ∧ w2.heap.size ≤ wr.heap.size) (fun kv _ => n - (intOf kv).toNat)
  case atStart => exact ⟨0, by omega, rfl, P2.out, R2.out, O2.out, Nat.le_refl _⟩
  case round =>
    obtain ⟨j, hj, rfl, hp, hrf, on, hsz⟩ := hrel
    obtain ⟨hok, hokl⟩ := HOKJ.out j
    have h32 : (playP P0 (xs.take j)).length ≤ 32 := by rw [hokl, HLN0.out]; omega
    by_cases hlt : j < n
    · have y1 : (0 : Int) ≤ (j : Int) := by omega
      have y2 : (j : Int) < (n : Int) := by omega
      have y3 : decide ((j : Int) < (n : Int)) = true := by rw [decide_eq_true_eq]; omega
      obtain ⟨_, _, hbd, hmem⟩ := HX.out.only0 on
      rcases hmem with h0 | ⟨b, off, hAe, hcell⟩
      · omega
      obtain ⟨x, hx⟩ : ∃ x, xs[j]? = some x := ⟨_, List.getElem?_eq_getElem (by have := HXL.out; omega)⟩
      obtain ⟨c0, c1, c2⟩ := hcell j x hx
      obtain ⟨_, hb1, hb2⟩ := hbd x (List.mem_of_getElem? hx)
      have hSU := playP_succ (P := P0) hx
      have HOK := Lib.hid hok
      have hrw := HW2.out
      have hS2 := S2.out
      generalize hPP : playP P0 (xs.take j) = P at *
      obtain ⟨kd, ln, cl⟩ := x
      simp only at c0 c1 c2 hb1 hb2
      have oa : Only [] wr (wr.alloc (.cells #[.int .i64 kd, .int .i64 ln, .int .i64 cl] 52)) := (Only.refl _ _).alloc _
      have hbx := Blk.new wr 52 #[.int .i64 kd, .int .i64 ln, .int .i64 cl]
      have HBX := Lib.hid hbx.lt
      have PE := Lib.hid (hp.only0 oa)
      have RE := Lib.hid (hrf.only0 oa)
      have OE := Lib.hid (on.trans0 oa)
      have c1E : Hid ((wr.alloc (.cells #[.int .i64 kd, .int .i64 ln, .int .i64 cl] 52)).cell? ⟨wr.heap.size, 1, none⟩ = some (.int .i64 ln)) := Lib.hid (hbx.cell 1)
      have c2E : Hid ((wr.alloc (.cells #[.int .i64 kd, .int .i64 ln, .int .i64 cl] 52)).cell? ⟨wr.heap.size, 2, none⟩ = some (.int .i64 cl)) := Lib.hid (hbx.cell 2)
      have SE : Hid ((wr.alloc (.cells #[.int .i64 kd, .int .i64 ln, .int .i64 cl] 52)).heap.size ≤ (wr.alloc (.cells #[.int .i64 kd, .int .i64 ln, .int .i64 cl] 52)).heap.size) := Lib.hid (Nat.le_refl _)
      have HS0 : Hid (w2.heap.size ≤ (wr.alloc (.cells #[.int .i64 kd, .int .i64 ln, .int .i64 cl] 52)).heap.size) := Lib.hid (Nat.le_trans hsz oa.size)
      have hbg : wr.heap.size ≠ sb ∧ wr.heap.size ≠ rg ∧ wr.heap.size ≠ g := by omega
      have hbxs : sb < (wr.alloc (.cells #[.int .i64 kd, .int .i64 ln, .int .i64 cl] 52)).heap.size ∧ rg < (wr.alloc (.cells #[.int .i64 kd, .int .i64 ln, .int .i64 cl] 52)).heap.size := by have := oa.size; omega
      subst hAe
      clear hcell hbd hx hp hrf on hok hokl oa hbx
      by_cases k0 : kd = 0
      · subst k0
        obtain ⟨Q, hQ⟩ : ∃ Q, Q = takeP P cl := ⟨_, rfl⟩
        have HSU := Lib.hid (show playP P0 (xs.take (j + 1)) = Q by rw [hSU, hQ]; unfold stepP; simp)
        have OKQ := Lib.hid (show Ok Q by rw [hQ]; exact takeP_ok HOK.out)
        have LNQ := Lib.hid (show Q.length ≤ 32 by rw [hQ, takeP_length]; exact h32)
        have HQL := Lib.hid (show Q.length = P.length by rw [hQ, takeP_length])
        have HTK := Lib.hid (fun w (h : PoolAt w g sb P) => pool_Take g sb P cl w h HOK.out hb2)
        have HRT := Lib.hid (fun w h hX => ref7_Take [sb] rg P cl w h hX HOK.out h32)
        rw [← hQ] at HTK HRT
        have ha1 : ((takeA P cl).1 != (takeA P cl).1) = false := by simp
        have ha2 : ((takeA P cl).2 != (takeA P cl).2) = false := by simp
        have HNU := Lib.hid (fun w => law0_Num (takeA P cl).2 w)
        have d2 := c2E.out
        clear hQ hSU
        go_wp2_with fail
        refine (HTK.out _ PE.out).mono ?_
        rintro e w5 ⟨rfl, p5, o5⟩
        have PE := Lib.hid p5
        have RE := Lib.hid (RE.out.only o5 (by simp))
        have OE := Lib.hid (OE.out.trans o5 (by intro b hb; simp at hb; omega))
        have c1E : Hid (w5.cell? ⟨wr.heap.size, 1, none⟩ = some (.int .i64 ln)) := Lib.hid ((cell_only o5 (by have := HBX.out; have := SE.out; omega) (by simp; omega)).trans c1E.out)
        have c2E : Hid (w5.cell? ⟨wr.heap.size, 2, none⟩ = some (.int .i64 cl)) := Lib.hid ((cell_only o5 (by have := HBX.out; have := SE.out; omega) (by simp; omega)).trans c2E.out)
        have SE := Lib.hid (Nat.le_trans SE.out (o5).size)
        clear p5 d2
        have d2 := c2E.out
        go_wp2_with fail
        refine (HRT.out w5 RE.out (by intro b hb; simp at hb; have := SE.out; omega)).mono ?_
        rintro e w6 ⟨rfl, r6, o6⟩
        have RE : Hid (RefAt w6 [sb] rg Q.length (takenOf Q)) := Lib.hid (by rw [HQL.out]; exact r6)
        have PE := Lib.hid (PE.out.only o6 (by simp; omega) (by simp; omega))
        have OE := Lib.hid (OE.out.trans o6 (by intro b hb; simp at hb; omega))
        have c1E : Hid (w6.cell? ⟨wr.heap.size, 1, none⟩ = some (.int .i64 ln)) := Lib.hid ((cell_only o6 (by have := HBX.out; have := SE.out; omega) (by simp; omega)).trans c1E.out)
        have c2E : Hid (w6.cell? ⟨wr.heap.size, 2, none⟩ = some (.int .i64 cl)) := Lib.hid ((cell_only o6 (by have := HBX.out; have := SE.out; omega) (by simp; omega)).trans c2E.out)
        have SE := Lib.hid (Nat.le_trans SE.out (o6).size)
        clear r6 d2 o5 o6
        generalize (takeA P cl).1 = ta at *
        generalize (takeA P cl).2 = tb at *
        go_wp2_with fail
        refine (HNU.out _).mono ?_
        rintro e w' ⟨rfl, rfl⟩
        have hoa : ((ofA Q ln).1 != (ofA Q ln).1) = false := by simp
        have hob : ((ofA Q ln).2 != (ofA Q ln).2) = false := by simp
        have HOFQ := Lib.hid (fun w h => pool_Of g sb Q ln w h OKQ.out)
        have HROQ := Lib.hid (fun w h => ref7_Of [sb] rg Q ln w h OKQ.out LNQ.out)
        have HALQ := Lib.hid (fun w h h2 => law7_alike g sb Q [sb] rg w h h2 OKQ.out LNQ.out)
        have d1 := c1E.out
        generalize (ofA Q ln).1 = oa at *
        generalize (ofA Q ln).2 = ob at *
        go_wp2_with fail
        refine (HOFQ.out _ PE.out).mono ?_
        rintro e wf ⟨rfl, owf⟩
        have PE := Lib.hid (PE.out.only0 owf)
        have RE := Lib.hid (RE.out.only0 owf)
        have OE := Lib.hid (OE.out.trans0 owf)
        have d1f : wf.cell? ⟨wr.heap.size, 1, none⟩ = some (.int .i64 ln) := (cell_only owf (by have := HBX.out; have := SE.out; omega) (by simp)).trans d1
        have SE := Lib.hid (Nat.le_trans SE.out owf.size)
        clear owf d1
        go_wp2_with fail
        refine (HROQ.out wf RE.out).mono ?_
        rintro e w' ⟨rfl, rfl⟩
        by_cases h4 : j % 4 = 0
        · have q4 : (j : Int) % 4 = 0 := by omega
          have q4b : ((j : Int) % 4 == 0) = true := by rw [beq_iff_eq]; exact q4
          go_wp2_with fail
          refine (HALQ.out wf PE.out RE.out).mono ?_
          rintro e wz ⟨rfl, oz⟩
          have PE := Lib.hid (PE.out.only0 oz)
          have RE := Lib.hid (RE.out.only0 oz)
          have OE := Lib.hid (OE.out.trans0 oz)
          have SE := Lib.hid (Nat.le_trans SE.out oz.size)
          clear oz
          go_wp2
          go_roundw
          · exact ⟨j + 1, by omega, by simp, by rw [HSU.out]; exact PE.out, by rw [HSU.out]; exact RE.out, OE.out, Nat.le_trans HS0.out SE.out⟩
          · simp [intOf]
            omega
        · have q4 : ¬ (j : Int) % 4 = 0 := by omega
          have q4b : ((j : Int) % 4 == 0) = false := by rw [beq_eq_false_iff_ne]; exact q4
          go_wp2
          go_roundw
          · exact ⟨j + 1, by omega, by simp, by rw [HSU.out]; exact PE.out, by rw [HSU.out]; exact RE.out, OE.out, Nat.le_trans HS0.out SE.out⟩
          · simp [intOf]
            omega
      by_cases k1 : kd = 1
      · subst k1
        clear k0
        obtain ⟨Q, hQ⟩ : ∃ Q, Q = giveP P ln := ⟨_, rfl⟩
        have HSU := Lib.hid (show playP P0 (xs.take (j + 1)) = Q by rw [hSU, hQ]; unfold stepP; simp)
        have OKQ := Lib.hid (show Ok Q by rw [hQ]; exact giveP_ok HOK.out h32 ln)
        have LNQ := Lib.hid (show Q.length ≤ 32 by rw [hQ, giveP_length]; exact h32)
        have HQL := Lib.hid (show Q.length = P.length by rw [hQ, giveP_length])
        have HPF := Lib.hid (fun w (h : PoolAt w g sb P) => pool_Give g sb P ln w h HOK.out)
        have HRF := Lib.hid (fun w h hX => ref7_Give [sb] rg P ln w h hX HOK.out h32)
        rw [← hQ] at HPF HRF
        have hna : (giveA P ln != giveA P ln) = false := by simp
        generalize giveA P ln = ga at *
        have HNU := Lib.hid (fun w => law0_Num ga w)
        have od : Only [] (wr.alloc (.cells #[.int .i64 1, .int .i64 ln, .int .i64 cl] 52)) (wr.alloc (.cells #[.int .i64 1, .int .i64 ln, .int .i64 cl] 52)).drew := (Only.refl _ _).drew
        have PE := Lib.hid (PE.out.only0 od)
        have RE := Lib.hid (RE.out.only0 od)
        have OE := Lib.hid (OE.out.trans0 od)
        have d1 := c1E.out
        have c1E : Hid ((wr.alloc (.cells #[.int .i64 1, .int .i64 ln, .int .i64 cl] 52)).drew.cell? ⟨wr.heap.size, 1, none⟩ = some (.int .i64 ln)) := Lib.hid ((cell_only od (by have := HBX.out; omega) (by simp)).trans c1E.out)
        have c2E : Hid ((wr.alloc (.cells #[.int .i64 1, .int .i64 ln, .int .i64 cl] 52)).drew.cell? ⟨wr.heap.size, 2, none⟩ = some (.int .i64 cl)) := Lib.hid ((cell_only od (by have := HBX.out; omega) (by simp)).trans c2E.out)
        have SE := Lib.hid (Nat.le_trans SE.out od.size)
        clear hQ hSU od
        go_wp2_with fail
        generalize (wr.alloc (.cells #[.int .i64 1, .int .i64 ln, .int .i64 cl] 52)) = wa at *
        go_region_held3 (fun w' => w'.cell? ⟨wr.heap.size, 1, none⟩ = some (.int .i64 ln)) (go_keep) (first | (go_at_call 27; refine (HNU.out _).mono ?_; rintro e w' ⟨rfl, rfl⟩) | (go_at_call 29; refine (HRF.out _ RE.out (by intro b hb; simp at hb; have := SE.out; omega)).mono ?_; rintro e w6 ⟨rfl, r6, o6⟩; have RE : Hid (RefAt w6 [sb] rg Q.length (takenOf Q)) := Lib.hid (by rw [HQL.out]; exact r6); have PE := Lib.hid (PE.out.only o6 (by simp; omega) (by simp; omega)); have OE := Lib.hid (OE.out.trans o6 (by intro b hb; simp at hb; omega)); have c1E : Hid (w6.cell? ⟨wr.heap.size, 1, none⟩ = some (.int .i64 ln)) := Lib.hid ((cell_only o6 (by have := HBX.out; have := SE.out; omega) (by simp; omega)).trans c1E.out); have c2E : Hid (w6.cell? ⟨wr.heap.size, 2, none⟩ = some (.int .i64 cl)) := Lib.hid ((cell_only o6 (by have := HBX.out; have := SE.out; omega) (by simp; omega)).trans c2E.out); have SE := Lib.hid (Nat.le_trans SE.out (o6).size); have d1 := c1E.out; clear r6 o6) | (go_at_call 20; refine (HPF.out _ PE.out).mono ?_; rintro e w5 ⟨rfl, p5, o5⟩; have PE := Lib.hid p5; have RE := Lib.hid (RE.out.only o5 (by simp)); have OE := Lib.hid (OE.out.trans o5 (by intro b hb; simp at hb; omega)); have c1E : Hid (w5.cell? ⟨wr.heap.size, 1, none⟩ = some (.int .i64 ln)) := Lib.hid ((cell_only o5 (by have := HBX.out; have := SE.out; omega) (by simp; omega)).trans c1E.out); have c2E : Hid (w5.cell? ⟨wr.heap.size, 2, none⟩ = some (.int .i64 cl)) := Lib.hid ((cell_only o5 (by have := HBX.out; have := SE.out; omega) (by simp; omega)).trans c2E.out); have SE := Lib.hid (Nat.le_trans SE.out (o5).size); have d1 := c1E.out; clear p5 o5))
        all_goals
          clear d1
          have hoa : ((ofA Q ln).1 != (ofA Q ln).1) = false := by simp
          have hob : ((ofA Q ln).2 != (ofA Q ln).2) = false := by simp
          have HOFQ := Lib.hid (fun w h => pool_Of g sb Q ln w h OKQ.out)
          have HROQ := Lib.hid (fun w h => ref7_Of [sb] rg Q ln w h OKQ.out LNQ.out)
          have HALQ := Lib.hid (fun w h h2 => law7_alike g sb Q [sb] rg w h h2 OKQ.out LNQ.out)
          have d1 := c1E.out
          generalize (ofA Q ln).1 = oa at *
          generalize (ofA Q ln).2 = ob at *
          go_wp2_with fail
          refine (HOFQ.out _ PE.out).mono ?_
          rintro e wf ⟨rfl, owf⟩
          have PE := Lib.hid (PE.out.only0 owf)
          have RE := Lib.hid (RE.out.only0 owf)
          have OE := Lib.hid (OE.out.trans0 owf)
          have d1f : wf.cell? ⟨wr.heap.size, 1, none⟩ = some (.int .i64 ln) := (cell_only owf (by have := HBX.out; have := SE.out; omega) (by simp)).trans d1
          have SE := Lib.hid (Nat.le_trans SE.out owf.size)
          clear owf d1
          go_wp2_with fail
          refine (HROQ.out wf RE.out).mono ?_
          rintro e w' ⟨rfl, rfl⟩
          by_cases h4 : j % 4 = 0
          · have q4 : (j : Int) % 4 = 0 := by omega
            have q4b : ((j : Int) % 4 == 0) = true := by rw [beq_iff_eq]; exact q4
            go_wp2_with fail
            refine (HALQ.out wf PE.out RE.out).mono ?_
            rintro e wz ⟨rfl, oz⟩
            have PE := Lib.hid (PE.out.only0 oz)
            have RE := Lib.hid (RE.out.only0 oz)
            have OE := Lib.hid (OE.out.trans0 oz)
            have SE := Lib.hid (Nat.le_trans SE.out oz.size)
            clear oz
            go_wp2
            go_roundw
            · exact ⟨j + 1, by omega, by simp, by rw [HSU.out]; exact PE.out, by rw [HSU.out]; exact RE.out, OE.out, Nat.le_trans HS0.out SE.out⟩
            · simp [intOf]
              omega
          · have q4 : ¬ (j : Int) % 4 = 0 := by omega
            have q4b : ((j : Int) % 4 == 0) = false := by rw [beq_eq_false_iff_ne]; exact q4
            go_wp2
            go_roundw
            · exact ⟨j + 1, by omega, by simp, by rw [HSU.out]; exact PE.out, by rw [HSU.out]; exact RE.out, OE.out, Nat.le_trans HS0.out SE.out⟩
            · simp [intOf]
              omega
      by_cases k2 : kd = 2
      · subst k2
        clear k0 k1
        obtain ⟨Q, hQ⟩ : ∃ Q, Q = markP P ln cl := ⟨_, rfl⟩
        have HSU := Lib.hid (show playP P0 (xs.take (j + 1)) = Q by rw [hSU, hQ]; unfold stepP; simp)
        have OKQ := Lib.hid (show Ok Q by rw [hQ]; exact markP_ok HOK.out ln cl)
        have LNQ := Lib.hid (show Q.length ≤ 32 by rw [hQ, markP_length]; exact h32)
        have HQL := Lib.hid (show Q.length = P.length by rw [hQ, markP_length])
        have HPF := Lib.hid (fun w (h : PoolAt w g sb P) => pool_Mark g sb P ln cl w h HOK.out hb2)
        have HRF := Lib.hid (fun w h hX => ref7_Mark [sb] rg P ln cl w h hX HOK.out h32)
        rw [← hQ] at HPF HRF
        have hna : (markA P ln cl != markA P ln cl) = false := by simp
        generalize markA P ln cl = ga at *
        have HNU := Lib.hid (fun w => law0_Num ga w)
        have od : Only [] (wr.alloc (.cells #[.int .i64 2, .int .i64 ln, .int .i64 cl] 52)) (wr.alloc (.cells #[.int .i64 2, .int .i64 ln, .int .i64 cl] 52)).drew := (Only.refl _ _).drew
        have PE := Lib.hid (PE.out.only0 od)
        have RE := Lib.hid (RE.out.only0 od)
        have OE := Lib.hid (OE.out.trans0 od)
        have d1 := c1E.out
        have d2 := c2E.out
        have c1E : Hid ((wr.alloc (.cells #[.int .i64 2, .int .i64 ln, .int .i64 cl] 52)).drew.cell? ⟨wr.heap.size, 1, none⟩ = some (.int .i64 ln)) := Lib.hid ((cell_only od (by have := HBX.out; omega) (by simp)).trans c1E.out)
        have c2E : Hid ((wr.alloc (.cells #[.int .i64 2, .int .i64 ln, .int .i64 cl] 52)).drew.cell? ⟨wr.heap.size, 2, none⟩ = some (.int .i64 cl)) := Lib.hid ((cell_only od (by have := HBX.out; omega) (by simp)).trans c2E.out)
        have SE := Lib.hid (Nat.le_trans SE.out od.size)
        clear hQ hSU od
        go_wp2_with fail
        generalize (wr.alloc (.cells #[.int .i64 2, .int .i64 ln, .int .i64 cl] 52)) = wa at *
        go_region_held3 (fun w' => w'.cell? ⟨wr.heap.size, 1, none⟩ = some (.int .i64 ln) ∧ w'.cell? ⟨wr.heap.size, 2, none⟩ = some (.int .i64 cl)) (go_keep) (first | (go_at_call 27; refine (HNU.out _).mono ?_; rintro e w' ⟨rfl, rfl⟩) | (go_at_call 30; refine (HRF.out _ RE.out (by intro b hb; simp at hb; have := SE.out; omega)).mono ?_; rintro e w6 ⟨rfl, r6, o6⟩; have RE : Hid (RefAt w6 [sb] rg Q.length (takenOf Q)) := Lib.hid (by rw [HQL.out]; exact r6); have PE := Lib.hid (PE.out.only o6 (by simp; omega) (by simp; omega)); have OE := Lib.hid (OE.out.trans o6 (by intro b hb; simp at hb; omega)); have c1E : Hid (w6.cell? ⟨wr.heap.size, 1, none⟩ = some (.int .i64 ln)) := Lib.hid ((cell_only o6 (by have := HBX.out; have := SE.out; omega) (by simp; omega)).trans c1E.out); have c2E : Hid (w6.cell? ⟨wr.heap.size, 2, none⟩ = some (.int .i64 cl)) := Lib.hid ((cell_only o6 (by have := HBX.out; have := SE.out; omega) (by simp; omega)).trans c2E.out); have SE := Lib.hid (Nat.le_trans SE.out (o6).size); have d1 := c1E.out; have d2 := c2E.out; clear r6 o6) | (go_at_call 24; refine (HPF.out _ PE.out).mono ?_; rintro e w5 ⟨rfl, p5, o5⟩; have PE := Lib.hid p5; have RE := Lib.hid (RE.out.only o5 (by simp)); have OE := Lib.hid (OE.out.trans o5 (by intro b hb; simp at hb; omega)); have c1E : Hid (w5.cell? ⟨wr.heap.size, 1, none⟩ = some (.int .i64 ln)) := Lib.hid ((cell_only o5 (by have := HBX.out; have := SE.out; omega) (by simp; omega)).trans c1E.out); have c2E : Hid (w5.cell? ⟨wr.heap.size, 2, none⟩ = some (.int .i64 cl)) := Lib.hid ((cell_only o5 (by have := HBX.out; have := SE.out; omega) (by simp; omega)).trans c2E.out); have SE := Lib.hid (Nat.le_trans SE.out (o5).size); have d1 := c1E.out; have d2 := c2E.out; clear p5 o5))
        all_goals
          clear d1 d2
          have hoa : ((ofA Q ln).1 != (ofA Q ln).1) = false := by simp
          have hob : ((ofA Q ln).2 != (ofA Q ln).2) = false := by simp
          have HOFQ := Lib.hid (fun w h => pool_Of g sb Q ln w h OKQ.out)
          have HROQ := Lib.hid (fun w h => ref7_Of [sb] rg Q ln w h OKQ.out LNQ.out)
          have HALQ := Lib.hid (fun w h h2 => law7_alike g sb Q [sb] rg w h h2 OKQ.out LNQ.out)
          have d1 := c1E.out
          generalize (ofA Q ln).1 = oa at *
          generalize (ofA Q ln).2 = ob at *
          go_wp2_with fail
          refine (HOFQ.out _ PE.out).mono ?_
          rintro e wf ⟨rfl, owf⟩
          have PE := Lib.hid (PE.out.only0 owf)
          have RE := Lib.hid (RE.out.only0 owf)
          have OE := Lib.hid (OE.out.trans0 owf)
          have d1f : wf.cell? ⟨wr.heap.size, 1, none⟩ = some (.int .i64 ln) := (cell_only owf (by have := HBX.out; have := SE.out; omega) (by simp)).trans d1
          have SE := Lib.hid (Nat.le_trans SE.out owf.size)
          clear owf d1
          go_wp2_with fail
          refine (HROQ.out wf RE.out).mono ?_
          rintro e w' ⟨rfl, rfl⟩
          by_cases h4 : j % 4 = 0
          · have q4 : (j : Int) % 4 = 0 := by omega
            have q4b : ((j : Int) % 4 == 0) = true := by rw [beq_iff_eq]; exact q4
            go_wp2_with fail
            refine (HALQ.out wf PE.out RE.out).mono ?_
            rintro e wz ⟨rfl, oz⟩
            have PE := Lib.hid (PE.out.only0 oz)
            have RE := Lib.hid (RE.out.only0 oz)
            have OE := Lib.hid (OE.out.trans0 oz)
            have SE := Lib.hid (Nat.le_trans SE.out oz.size)
            clear oz
            go_wp2
            go_roundw
            · exact ⟨j + 1, by omega, by simp, by rw [HSU.out]; exact PE.out, by rw [HSU.out]; exact RE.out, OE.out, Nat.le_trans HS0.out SE.out⟩
            · simp [intOf]
              omega
          · have q4 : ¬ (j : Int) % 4 = 0 := by omega
            have q4b : ((j : Int) % 4 == 0) = false := by rw [beq_eq_false_iff_ne]; exact q4
            go_wp2
            go_roundw
            · exact ⟨j + 1, by omega, by simp, by rw [HSU.out]; exact PE.out, by rw [HSU.out]; exact RE.out, OE.out, Nat.le_trans HS0.out SE.out⟩
            · simp [intOf]
              omega
      · have HSU := Lib.hid (hSU.trans (show stepP P (kd, ln, cl) = P by unfold stepP; rw [if_neg k0, if_neg k1, if_neg k2]))
        have e0 : (kd == 0) = false := by simpa using k0
        have e1 : (kd == 1) = false := by simpa using k1
        have e2 : (kd == 2) = false := by simpa using k2
        obtain ⟨Q, hQ⟩ : ∃ Q, Q = P := ⟨_, rfl⟩
        subst hQ
        have OKQ := HOK
        have LNQ := Lib.hid h32
        clear hSU k0 k1 k2
        have hoa : ((ofA Q ln).1 != (ofA Q ln).1) = false := by simp
        have hob : ((ofA Q ln).2 != (ofA Q ln).2) = false := by simp
        have HOFQ := Lib.hid (fun w h => pool_Of g sb Q ln w h OKQ.out)
        have HROQ := Lib.hid (fun w h => ref7_Of [sb] rg Q ln w h OKQ.out LNQ.out)
        have HALQ := Lib.hid (fun w h h2 => law7_alike g sb Q [sb] rg w h h2 OKQ.out LNQ.out)
        have d1 := c1E.out
        generalize (ofA Q ln).1 = oa at *
        generalize (ofA Q ln).2 = ob at *
        go_wp2_with fail
        refine (HOFQ.out _ PE.out).mono ?_
        rintro e wf ⟨rfl, owf⟩
        have PE := Lib.hid (PE.out.only0 owf)
        have RE := Lib.hid (RE.out.only0 owf)
        have OE := Lib.hid (OE.out.trans0 owf)
        have d1f : wf.cell? ⟨wr.heap.size, 1, none⟩ = some (.int .i64 ln) := (cell_only owf (by have := HBX.out; have := SE.out; omega) (by simp)).trans d1
        have SE := Lib.hid (Nat.le_trans SE.out owf.size)
        clear owf d1
        go_wp2_with fail
        refine (HROQ.out wf RE.out).mono ?_
        rintro e w' ⟨rfl, rfl⟩
        by_cases h4 : j % 4 = 0
        · have q4 : (j : Int) % 4 = 0 := by omega
          have q4b : ((j : Int) % 4 == 0) = true := by rw [beq_iff_eq]; exact q4
          go_wp2_with fail
          refine (HALQ.out wf PE.out RE.out).mono ?_
          rintro e wz ⟨rfl, oz⟩
          have PE := Lib.hid (PE.out.only0 oz)
          have RE := Lib.hid (RE.out.only0 oz)
          have OE := Lib.hid (OE.out.trans0 oz)
          have SE := Lib.hid (Nat.le_trans SE.out oz.size)
          clear oz
          go_wp2
          go_roundw
          · exact ⟨j + 1, by omega, by simp, by rw [HSU.out]; exact PE.out, by rw [HSU.out]; exact RE.out, OE.out, Nat.le_trans HS0.out SE.out⟩
          · simp [intOf]
            omega
        · have q4 : ¬ (j : Int) % 4 = 0 := by omega
          have q4b : ((j : Int) % 4 == 0) = false := by rw [beq_eq_false_iff_ne]; exact q4
          go_wp2
          go_roundw
          · exact ⟨j + 1, by omega, by simp, by rw [HSU.out]; exact PE.out, by rw [HSU.out]; exact RE.out, OE.out, Nat.le_trans HS0.out SE.out⟩
          · simp [intOf]
            omega
    · obtain rfl : j = n := by omega
      have y3 : decide ((j : Int) < (j : Int)) = false := by simp
      have HAL := Lib.hid (law7_alike g sb _ [sb] rg wr hp hrf hok h32)
      have ON := Lib.hid on
      clear hp hrf on hok hokl h32
      go_wp2_with fail
      refine HAL.out.mono ?_
      rintro e wz ⟨rfl, oz⟩
      have OZ2 := Lib.hid (ON.out.trans0 oz)
      clear oz
      go_wp2_with fail
      refine (law7_awake _).mono ?_
      rintro e wz ⟨rfl, oz⟩
      have OZ := Lib.hid (OZ2.out.trans0 oz)
      clear oz
      go_wp2
      go_ret
      exact ⟨rfl, OZ.out⟩
end Go.Proofs.Ytpenmnngjfncgaa
