/- The reference of chapter 7: next, Take, Mark, Room. -/
import Derived.Test.YtpenmnngjfncgaaPoolW
namespace Go.Proofs.FuPool
open Go.Proofs.FuClass
def nextA (P : Pool) (c : Int) : Int := match find P c with | some (i, k) => lineAt i k c | none => -1
theorem findIn_nil {P : Pool} {c : Int} (h : freeOf P c = []) : findIn P c = none := by
  cases hf : findIn P c with
  | none => rfl
  | some x =>
    have := (findIn_first (i := x.1) (k := x.2) hf).1
    rw [h] at this
    cases this
theorem next_free {P : Pool} {c : Int} (hc : 0 ≤ c ∧ c ≤ 3) (h : 0 < (freeOf P c).length) : (freeOf P c)[0]? = some (nextA P c) := by
  cases hf : findIn P c with
  | none => rw [findIn_none hf] at h; simp at h
  | some x =>
    obtain ⟨i, k⟩ := x
    obtain ⟨h1, _, _, h2⟩ := findIn_first hf
    have hfi : find P c = some (i, k) := by unfold find; rw [hf]; rfl
    have e : nextA P c = lineAt i k c := by unfold nextA; rw [hfi]
    rw [e]
    cases hq : freeOf P c with
    | nil => rw [hq] at h1; cases h1
    | cons a l =>
      have hr := free_rise P hc
      rw [hq] at hr h1 h2
      have h3 := h2 a (List.mem_cons_self ..)
      rcases List.mem_cons.1 h1 with e | e
      · rw [e]
        rfl
      · have := (List.pairwise_cons.1 hr).1 _ e
        omega
theorem next_whole {P : Pool} {c : Int} (h : freeOf P c = []) {k : Nat} {s : Slab} (hs : P[k]? = some s) (hcl : s.cls = -1) (hall : ∀ (j : Nat) (t : Slab), j < k → P[j]? = some t → t.cls ≠ -1) : nextA P c = 2 + 8 * (k : Int) := by
  have hf := findIn_nil h
  have hw : findWhole P = some k := by
    unfold findWhole
    rw [List.find?_range_eq_some]
    refine ⟨by rw [decide_eq_true_eq, hs]; simp [hcl], List.mem_range.2 (List.getElem?_eq_some_iff.1 hs).1, fun j hj => ?_⟩
    cases ht : P[j]? with
    | none => simp
    | some t =>
      have := hall j t hj ht
      simp [this]
  have hfi : find P c = some (k, 0) := by unfold find; rw [hf, hw]; rfl
  unfold nextA
  rw [hfi]
  simp [lineAt]
theorem next_none {P : Pool} {c : Int} (h : freeOf P c = []) (hall : ∀ (j : Nat) (t : Slab), P[j]? = some t → t.cls ≠ -1) : nextA P c = -1 := by
  have hf := findIn_nil h
  have hw : findWhole P = none := by
    unfold findWhole
    rw [List.find?_eq_none]
    intro j hj
    cases ht : P[j]? with
    | none => simp
    | some t =>
      have := hall j t ht
      simp [this]
  unfold nextA
  rw [find_none.2 ⟨hf, hw⟩]
theorem next_take {P : Pool} (hP : Ok P) {c : Int} (hc : 0 ≤ c ∧ c ≤ 3) : (nextA P c = -1 ∧ takeA P c = (0, 4) ∧ takeP P c = P) ∨
    ∃ i k s, P[i]? = some s ∧ (s.cls = -1 ∨ s.cls = c) ∧ k < many c ∧ s.at k = false ∧ nextA P c = lineAt i k c ∧ 2 ≤ nextA P c ∧ takeA P c = (nextA P c, 0) ∧ takeP P c = P.modify i fun s => s.take c k := by
  by_cases h : (takeA P c).2 = 0
  · obtain ⟨i, k, s, hf, hs, h1, h2, h3, h4, h5⟩ := takeA_some hP hc h
    have e : nextA P c = lineAt i k c := by unfold nextA; rw [hf]
    have := lineAt_bd (i := i) hc h2
    exact .inr ⟨i, k, s, hs, h1, h2, h3, e, by omega, by rw [h4, e], h5⟩
  · obtain ⟨hf, h1, h2⟩ := takeA_no hc h
    exact .inl ⟨by unfold nextA; rw [hf], h1, h2⟩
theorem next_room {P : Pool} (hP : Ok P) {c : Int} (hc : 0 ≤ c ∧ c ≤ 3) : roomOf P c = decide (0 ≤ nextA P c) := by
  have h0 := many_span hc
  unfold roomOf
  rw [show decide (span c ≠ 0) = true by rw [decide_eq_true_eq]; omega, Bool.true_and]
  cases hf : find P c with
  | none =>
    have : nextA P c = -1 := by unfold nextA; rw [hf]
    rw [this]
    rfl
  | some x =>
    obtain ⟨i, k⟩ := x
    obtain ⟨s, hs, h1, h2, h3⟩ := find_some hP hc hf
    have : nextA P c = lineAt i k c := by unfold nextA; rw [hf]
    have hb := lineAt_bd (i := i) hc h2
    rw [this, Option.isSome_some]
    symm
    rw [decide_eq_true_eq]
    omega
end Go.Proofs.FuPool
namespace Go.Proofs.Ytpenmnngjfncgaa
open Go.RowKit Go.Proofs.FuMem Go.Proofs.FuClass Go.Proofs.FuPool
set_option maxRecDepth 100000
set_option maxHeartbeats 800000 in
theorem ref7_next (X : List Nat) (rg : Nat) (P : Pool) (c : Int) (w : World) (h : RefAt w X rg P.length (takenOf P)) (hP : Ok P) (h32 : P.length ≤ 32) (hc : 0 ≤ c ∧ c ≤ 3) :
    Calls Try.prog 45 #[.pointer (some ⟨rg, 0, none⟩), .int .i64 c] w fun e w' => e = .returned (.int .i64 (nextA P c)) ∧ Only [] w w' := by
  have HFR := Lib.hid (ref7_Free X rg P c w h hP h32 hc)
  have HCL := Lib.hid (fun w i s (h : RefAt w X rg P.length (takenOf P)) (hs : P[i]? = some s) => ref7_Class X rg P i s w h hP h32 hs)
  have HREF := Lib.hid h
  have HX0 := Lib.hid (fun w (h : RefAt w X rg P.length (takenOf P)) => (show w.cell? ⟨rg, 0, none⟩ = some (.int .i64 P.length) by
    obtain ⟨_, A, n, c, hb, _⟩ := h
    exact hb.cell 0))
  have HGET := Lib.hid (fun i (hi : i < P.length) => (⟨P[i], List.getElem?_eq_getElem hi⟩ : ∃ s, P[i]? = some s))
  have HNF := Lib.hid (fun h => next_free (P := P) hc h)
  have HNW := Lib.hid (fun h k s hs hcl hall => next_whole (P := P) (c := c) h (k := k) (s := s) hs hcl hall)
  have HNN := Lib.hid (fun h hall => next_none (P := P) (c := c) h hall)
  have HCB := Lib.hid (fun i s (hs : P[i]? = some s) => cls_bd hP hs)
  have HPL := Lib.hid (fun i s (hs : P[i]? = some s) => (List.getElem?_eq_some_iff.1 hs).1)
  have hfl : (freeOf P c).length ≤ 256 := by have := freeTo_length P c P.length; unfold freeOf; omega
  clear h hP
  generalize takenOf P = lt at *
  generalize freeOf P c = f at *
  generalize hN : P.length = n at *
  generalize nextA P c = nx at *
  clear hN
  go_enter Try.func45, Try.ntmps45
  go_wp2_with fail
  refine HFR.out.mono ?_
  rintro e w2 ⟨v2, rfl, A2, c2, rfl, b2, o2⟩
  have I2 := Lib.hid (is_own b2)
  have O2 := Lib.hid o2
  have R2 := Lib.hid (HREF.out.only0 o2)
  clear b2 o2
  by_cases hf0 : 0 < f.length
  · have z1 : decide ((0 : Int) < (f.length : Int)) = true := by rw [decide_eq_true_eq]; omega
    have z2 : decide (0 < f.length) = true := by rw [decide_eq_true_eq]; omega
    have z3 : (0 : Int) < (f.length : Int) := by omega
    obtain ⟨b5, o5, e5, hc5⟩ := I2.out.at_ (by omega)
    have x5 := hc5 0 hf0
    have h0 := HNF.out hf0
    rw [List.getElem?_eq_getElem hf0] at h0
    rw [Option.some.inj h0, Nat.add_zero] at x5
    subst e5
    clear hc5 h0
    go_wp2
    go_ret
    exact ⟨rfl, O2.out⟩
  · have z1 : decide ((0 : Int) < (f.length : Int)) = false := by rw [decide_eq_false_iff_not]; omega
    have z2 : decide (0 < f.length) = false := by rw [decide_eq_false_iff_not]; omega
    have hfn : f = [] := List.eq_nil_of_length_eq_zero (by omega)
    have HFN := Lib.hid hfn
    have x0 := HX0.out w2 R2.out
    clear hfn
    go_wp2
    go_loop [6] (fun kv => ∃ j : Nat, j ≤ n ∧ kv = .int .i64 j ∧ ∀ (i : Nat) (t : Slab), i < j → P[i]? = some t → t.cls ≠ -1) (fun kv => n - (intOf kv).toNat)
    case atStart => exact ⟨0, by omega, rfl, fun i t hi => by omega⟩
    case round =>
      obtain ⟨j, hj, rfl, hall⟩ := hrel
      have HALL := Lib.hid hall
      clear hall
      by_cases hlt : j < n
      · have y3 : decide ((j : Int) < (n : Int)) = true := by rw [decide_eq_true_eq]; omega
        obtain ⟨s, hs⟩ := HGET.out j hlt
        have HC := Lib.hid (HCL.out w2 j s R2.out hs)
        have hcb := HCB.out j s hs
        have HSL := Lib.hid (fun w => ref4_Slab (j : Int) w)
        rw [slab_at (show j < 32 by omega)] at HSL
        by_cases hcl : s.cls = -1
        · have HNX := Lib.hid (HNW.out HFN.out j s hs hcl HALL.out)
          rw [hcl] at HC
          clear hs hcl hcb
          go_wp2_with fail
          refine HC.out.mono ?_
          rintro e w' ⟨rfl, rfl⟩
          go_wp2_with fail
          refine (HSL.out _).mono ?_
          rintro e w' ⟨rfl, rfl⟩
          go_wp2
          go_ret
          exact ⟨by rw [HNX.out]; rfl, O2.out⟩
        · have q1 : decide (s.cls < 0) = false := by rw [decide_eq_false_iff_not]; omega
          have HNX := Lib.hid (show ∀ (i : Nat) (t : Slab), i < j + 1 → P[i]? = some t → t.cls ≠ -1 from fun i t hi ht => by
            by_cases e : i = j
            · subst e
              rw [hs] at ht
              cases ht
              exact hcl
            · exact HALL.out i t (by omega) ht)
          clear hs hcl hcb
          generalize s.cls = cl at *
          go_wp2_with fail
          refine HC.out.mono ?_
          rintro e w' ⟨rfl, rfl⟩
          go_wp2
          go_round
          · exact ⟨j + 1, by omega, by simp, HNX.out⟩
          · simp [intOf]
            omega
      · obtain rfl : j = n := by omega
        have y3 : decide ((j : Int) < (j : Int)) = false := by simp
        have HNX := Lib.hid (HNN.out HFN.out (fun i t ht => HALL.out i t (HPL.out i t ht) ht))
        go_wp2
        go_ret
        exact ⟨by rw [HNX.out]; rfl, O2.out⟩
theorem ref7_Take (X : List Nat) (rg : Nat) (P : Pool) (c : Int) (w : World) (h : RefAt w X rg P.length (takenOf P)) (hX : ∀ b ∈ X, b < w.heap.size) (hP : Ok P) (h32 : P.length ≤ 32) :
    Calls Try.prog 28 #[.pointer (some ⟨rg, 0, none⟩), .int .i64 c] w fun e w' => e = .returned (.tuple #[.int .i64 (takeA P c).1, .int .i64 (takeA P c).2]) ∧ RefAt w' X rg P.length (takenOf (takeP P c)) ∧ Only [rg] w w' := by
  have HSP := Lib.hid (fun w => ref5_Span c w)
  have HREF := Lib.hid h
  have hsc := span_cases c
  by_cases h0 : span c = 0
  · have e1 : takeA P c = (0, 1) := if_pos h0
    have e2 : takeP P c = P := if_pos h0
    rw [e1, e2]
    rw [h0] at HSP
    clear h e1 e2 h0 hsc
    go_enter Try.func28, Try.ntmps28
    go_wp2_with fail
    refine (HSP.out _).mono ?_
    rintro e w' ⟨rfl, rfl⟩
    go_wp2
    go_ret2
    exact ⟨rfl, HREF.out, Only.refl _ _⟩
  have hc3 : 0 ≤ c ∧ c ≤ 3 := by omega
  have d0 : ((span c : Int) == 0) = false := by simp; omega
  have d1 : ¬ (span c : Int) = 0 := by omega
  have HNX := Lib.hid (ref7_next X rg P c w h hP h32 hc3)
  have hln : (takenOf P).length ≤ 256 := by have := blocksTo_length P P.length; unfold takenOf; omega
  rcases next_take hP hc3 with ⟨n1, n2, n3⟩ | ⟨i, k, s, hs, s1, s2, s3, s4, s5, s6, s7⟩
  · rw [n2, n3]
    rw [n1] at HNX
    clear h n1 n2 n3 h0 hsc
    generalize span c = sp at *
    go_enter Try.func28, Try.ntmps28
    go_wp2_with fail
    refine (HSP.out _).mono ?_
    rintro e w' ⟨rfl, rfl⟩
    go_wp2_with fail
    refine HNX.out.mono ?_
    rintro e w2 ⟨rfl, o2⟩
    have R2 := Lib.hid (HREF.out.only0 o2)
    have O2 := Lib.hid o2
    clear o2
    go_wp2
    go_ret2
    exact ⟨rfl, R2.out, O2.out.mono (by simp)⟩
  · have htt := (taken_take hP h32 hs hc3 s2 s3 s1).2
    rw [s6, s7, htt]
    rw [← s4]
    have q1 : decide (nextA P c < 0) = false := by rw [decide_eq_false_iff_not]; omega
    have HPU := Lib.hid (fun w h hX => ref7_put X rg P.length (takenOf P) (nextA P c) c w h hX hln)
    clear h hs s1 s2 s3 s4 s5 s6 s7 htt h0 hsc hln
    generalize nextA P c = nx at *
    generalize takenOf P = lt at *
    generalize span c = sp at *
    go_enter Try.func28, Try.ntmps28
    go_wp2_with fail
    refine (HSP.out _).mono ?_
    rintro e w' ⟨rfl, rfl⟩
    go_wp2_with fail
    refine HNX.out.mono ?_
    rintro e w2 ⟨rfl, o2⟩
    have R2 := Lib.hid (HREF.out.only0 o2)
    have O2 := Lib.hid o2
    have HX2 := Lib.hid (show ∀ b ∈ X, b < w2.heap.size from fun b hb => Nat.lt_of_lt_of_le (hX b hb) o2.size)
    clear o2
    go_wp2_with fail
    refine (HPU.out w2 R2.out HX2.out).mono ?_
    rintro e w3 ⟨rfl, r3, o3⟩
    have R3 := Lib.hid r3
    have O3 := Lib.hid ((O2.out.mono (T := [rg]) (by simp)).trans o3 (by intro b hb; exact .inl hb))
    clear r3 o3
    go_wp2
    go_ret2
    exact ⟨rfl, R3.out, O3.out⟩
theorem ref7_Room (X : List Nat) (rg : Nat) (P : Pool) (c : Int) (w : World) (h : RefAt w X rg P.length (takenOf P)) (hP : Ok P) (h32 : P.length ≤ 32) :
    Calls Try.prog 54 #[.pointer (some ⟨rg, 0, none⟩), .int .i64 c] w fun e w' => e = .returned (.bool (roomOf P c)) ∧ Only [] w w' := by
  have HSP := Lib.hid (fun w => ref5_Span c w)
  have hsc := span_cases c
  by_cases h0 : span c = 0
  · have HE := Lib.hid (show roomOf P c = false by unfold roomOf; simp [h0])
    rw [h0] at HSP
    clear h h0 hsc
    go_enter Try.func54, Try.ntmps54
    go_wp2_with fail
    refine (HSP.out _).mono ?_
    rintro e w' ⟨rfl, rfl⟩
    go_wp2
    go_ret
    exact ⟨by rw [HE.out]; rfl, Only.refl _ _⟩
  have hc3 : 0 ≤ c ∧ c ≤ 3 := by omega
  have d0 : decide ((0 : Int) < (span c : Int)) = true := by rw [decide_eq_true_eq]; omega
  have d1 : decide (0 < span c) = true := by rw [decide_eq_true_eq]; omega
  have HNX := Lib.hid (ref7_next X rg P c w h hP h32 hc3)
  have HE := Lib.hid (next_room hP hc3)
  clear h h0 hsc
  generalize nextA P c = nx at *
  generalize span c = sp at *
  go_enter Try.func54, Try.ntmps54
  go_wp2_with fail
  refine (HSP.out _).mono ?_
  rintro e w' ⟨rfl, rfl⟩
  go_wp2_with fail
  refine HNX.out.mono ?_
  rintro e w2 ⟨rfl, o2⟩
  have O2 := Lib.hid o2
  clear o2
  go_wp2
  go_ret
  exact ⟨by rw [HE.out]; rfl, O2.out⟩
end Go.Proofs.Ytpenmnngjfncgaa
