/- The reference of chapter 7: Free. -/
import Derived.Test.YtpenmnngjfncgaaPoolU
namespace Go.Proofs.Ytpenmnngjfncgaa
open Go.RowKit Go.Proofs.FuMem Go.Proofs.FuClass Go.Proofs.FuPool
set_option maxRecDepth 100000
theorem of_line {P : Pool} (hP : Ok P) (h32 : P.length ≤ 32) {j m : Nat} {s : Slab} {c : Int} (hs : P[j]? = some s) (hcl : s.cls = c) (hm : m < many c) : ofA P (lineAt j m c) = if s.at m = true then (c, true) else (0, false) := by
  have hc := many_cls hm
  have hj : j < P.length := (List.getElem?_eq_some_iff.1 hs).1
  split
  · rename_i ha
    have := of_mem hP h32 (mem_takenOf.2 ⟨j, s, m, hs, by rw [hcl]; exact hm, ha, rfl⟩)
    simp only at this
    rw [hcl] at this
    exact this
  · rename_i ha
    refine of_none h32 fun x hx e => ?_
    obtain ⟨i, t, k, ht, g1, g2, rfl⟩ := mem_takenOf.1 hx
    simp only at e
    have hi : i < P.length := (List.getElem?_eq_some_iff.1 ht).1
    have e1 := slabOf_lineAt (i := i) (by omega) (many_cls g1) g1
    rw [e, slabOf_lineAt (by omega) hc hm] at e1
    have : i = j := by omega
    subst this
    rw [hs] at ht
    cases ht
    rw [hcl] at e
    have := lineAt_inj hc e
    subst this
    exact ha g2
set_option maxHeartbeats 2000000 in
theorem ref7_Free (X : List Nat) (rg : Nat) (P : Pool) (c : Int) (w : World) (h : RefAt w X rg P.length (takenOf P)) (hP : Ok P) (h32 : P.length ≤ 32) (_hc : 0 ≤ c ∧ c ≤ 3) :
    Calls Try.prog 53 #[.pointer (some ⟨rg, 0, none⟩), .int .i64 c] w fun e w' => ∃ x, e = .returned x ∧ MadeI w (freeOf P c) x w' := by
  have HCL := Lib.hid (fun w i s (h : RefAt w X rg P.length (takenOf P)) (hs : P[i]? = some s) => ref7_Class X rg P i s w h hP h32 hs)
  have HOF := Lib.hid (fun w line (h : RefAt w X rg P.length (takenOf P)) => ref7_Of X rg P line w h hP h32)
  have HST := Lib.hid (fun k w => ref5_Starts k c w)
  obtain ⟨i0, hi, hz0, hz1, hz2⟩ := info_parts Try.intInfo
  have HI := Lib.hid hi
  have HZ0 := Lib.hid hz0
  have HZ1 := Lib.hid hz1
  have HZ2 := Lib.hid hz2
  have HREF := Lib.hid h
  have HX0 := Lib.hid (fun w (h : RefAt w X rg P.length (takenOf P)) => (show w.cell? ⟨rg, 0, none⟩ = some (.int .i64 P.length) by
    obtain ⟨_, A, n, c, hb, _⟩ := h
    exact hb.cell 0))
  have HGET := Lib.hid (fun i (hi : i < P.length) => (⟨P[i], List.getElem?_eq_getElem hi⟩ : ∃ s, P[i]? = some s))
  have HOL := Lib.hid (fun j m s (hs : P[j]? = some s) (hcl : s.cls = c) (hm : m < many c) => of_line hP h32 hs hcl hm)
  have HFIN := Lib.hid (show freeOf P c = freeTo P c P.length from rfl)
  clear hi hz0 hz1 hz2 h hP
  generalize takenOf P = lt at *
  generalize hN : P.length = n at *
  clear hN
  go_enter Try.func53, Try.ntmps53
  go_wp2
  go_loopw [5, 6] (fun ov kv wr => ∃ j : Nat, j ≤ n ∧ kv = .int .i64 j ∧ wr.ownsRow w.heap.size 3 1 ov (freeTo P c j).length ((freeTo P c j).map (Value.int .i64)) ∧ Only [] w wr) (fun _ kv _ => n - (intOf kv).toNat)
  case atStart => exact ⟨0, by omega, rfl, own_nil _ _ _ _, Only.refl _ _⟩
  case round =>
    obtain ⟨j, hj, rfl, ho, on⟩ := hrel
    have x0 := HX0.out wr (HREF.out.only0 on)
    by_cases hlt : j < n
    · have y3 : decide ((j : Int) < (n : Int)) = true := by rw [decide_eq_true_eq]; omega
      obtain ⟨s, hs⟩ := HGET.out j hlt
      have HC := Lib.hid (HCL.out wr j s (HREF.out.only0 on) hs)
      have HTS := Lib.hid (freeTo_succ (c := c) hs)
      have HO := Lib.hid ho
      have ON := Lib.hid on
      have htl : (freeTo P c j).length ≤ 256 := by have := freeTo_length P c j; omega
      by_cases hcc : s.cls = c
      case neg =>
        have q1 : (s.cls != c) = true := by rw [bne_iff_ne]; exact hcc
        have HTS2 := Lib.hid (HTS.out.trans (by rw [freeIn_no hcc, List.append_nil]))
        generalize s.cls = cl at *
        clear ho on hs hcc htl
        go_wp2_with fail
        refine HC.out.mono ?_
        rintro e w' ⟨rfl, rfl⟩
        go_wp2
        go_roundw
        · exact ⟨j + 1, by omega, by simp, by rw [HTS2.out]; exact HO.out, ON.out⟩
        · simp [intOf]
          omega
      have q1 : (s.cls != c) = false := by rw [bne_eq_false_iff_eq]; exact hcc
      rw [← freeTo1_all hcc] at HTS
      have HOFM := Lib.hid (fun m (hm : m < many c) => HOL.out j m s hs hcc hm)
      have HFL := Lib.hid (fun m => freeTo1_length c j s m)
      have HYES := Lib.hid (fun m (h : s.at m = false) => freeTo1_yes (c := c) (i := j) (m := m) (s := s) h)
      have HNON := Lib.hid (fun m (h : s.at m = true) => freeTo1_no (c := c) (i := j) (m := m) (s := s) h)
      rw [hcc] at HC q1
      have hse := starts_eq (i := j) (c := c) (by omega)
      have hm8 : many c ≤ 8 := by have := many_cases c; omega
      have hLl : (starts (j : Int) c).length = many c := by rw [hse]; simp
      have HLG := Lib.hid (fun m (hm : m < (starts (j : Int) c).length) => show (starts (j : Int) c)[m] = lineAt j m c by simp only [hse, List.getElem_map, List.getElem_range])
      have HSJ := Lib.hid (fun w => HST.out (j : Int) w)
      generalize starts (j : Int) c = L at *
      have HLL := Lib.hid hLl
      have hL8 : L.length ≤ 8 := by omega
      have HOW := Lib.hid (fun k (hk : Value.ownBlock u5 = some k) => ho.lt k hk)
      clear ho on hs hcc hse hm8 hLl
      go_wp2_with fail
      refine HC.out.mono ?_
      rintro e w' ⟨rfl, rfl⟩
      go_wp2_with fail
      refine (HSJ.out _).mono ?_
      rintro e w4 ⟨v4, rfl, A4, c4, rfl, b4, o4⟩
      have HO4 := Lib.hid (own_only HO.out o4 (by simp))
      have ON4 := Lib.hid (ON.out.trans0 o4)
      have I4 := Lib.hid (is_own b4)
      have hA4 : ∀ b off q, A4 = some ⟨b, off, q⟩ → wr.heap.size ≤ b := fun b off q e => by
        obtain ⟨A', c', hvv, _, hge⟩ := own_slice b4
        cases hvv
        exact (hge b off q e).1
      have HA4 := Lib.hid hA4
      clear b4 o4 hA4
      obtain ⟨S, hS1, hS2⟩ : ∃ S : List Nat, (∀ k, Value.ownBlock u5 = some k → k ∈ S) ∧ (∀ b ∈ S, b < wr.heap.size) := ⟨(Value.ownBlock u5).toList, fun k hk => by rw [hk]; simp, fun b hb => (HOW.out b (by simpa using hb)).2⟩
      have HS1 := Lib.hid hS1
      have HS2 := Lib.hid hS2
      clear hS1 hS2
      go_wp2
      go_loopw [5, 8] (fun ov kv wq => ∃ m : Nat, m ≤ L.length ∧ kv = .int .i64 m ∧ wq.ownsRow w.heap.size 3 1 ov ((freeTo P c j) ++ (freeTo1 c j s m)).length (((freeTo P c j) ++ (freeTo1 c j s m)).map (Value.int .i64)) ∧ Only [] w wq ∧ Only S w4 wq ∧ ∀ k, Value.ownBlock ov = some k → k ∈ S ∨ w4.heap.size ≤ k) (fun _ kv _ => L.length - (intOf kv).toNat)
      case atStart => exact ⟨0, by omega, rfl, by simpa [freeTo1] using HO4.out, ON4.out, Only.refl _ _, fun k hk => .inl (HS1.out k hk)⟩
      case round =>
        obtain ⟨m, hm, rfl, ho5, on5, on45, hS5⟩ := hrel
        have HO5 := Lib.hid ho5
        have ON5 := Lib.hid on5
        have ON45 := Lib.hid on45
        have HS5 := Lib.hid hS5
        clear ho5 hS5
        by_cases hlm : m < L.length
        · have z1 : (0 : Int) ≤ (m : Int) := by omega
          have z2 : (m : Int) < (L.length : Int) := by omega
          have z3 : decide ((m : Int) < (L.length : Int)) = true := by rw [decide_eq_true_eq]; omega
          have hI5 := I4.out.only on45 (fun b off q e hb => by have h1 := HA4.out b off q e; have h2 := HS2.out b hb; omega)
          obtain ⟨b4, off4, hAe, hcell⟩ := hI5.at_ (by omega)
          have xl := hcell m (by omega)
          rw [HLG.out m hlm] at xl
          have HOI := Lib.hid (HOF.out wr (lineAt j m c) (HREF.out.only0 on5))
          have hom := HOFM.out m (by have := HLL.out; omega)
          have hfl := HFL.out m
          clear hcell hI5 on5 on45
          subst hAe
          by_cases hat : s.at m = true
          · rw [if_pos hat] at hom
            rw [hom] at HOI
            have HN := Lib.hid (HNON.out m hat)
            clear hat hom
            go_wp2_with fail
            refine HOI.out.mono ?_
            rintro e w' ⟨rfl, rfl⟩
            go_wp2
            go_roundw
            · exact ⟨m + 1, by omega, by simp, by rw [HN.out]; exact HO5.out, ON5.out, ON45.out, HS5.out⟩
            · simp [intOf]
              omega
          · rw [if_neg hat] at hom
            rw [hom] at HOI
            have HY := Lib.hid (HYES.out m (by simpa using hat))
            obtain ⟨A8, c8, w8, hr8, hw8, on8, on48, hS8⟩ := append_ownX (P := Try.prog) (wr.alloc (.cells #[.int .i64 (lineAt j m c)] 3)) (ON5.out.alloc _) (ON45.out.alloc _) 28 28 3 i0 _ 1 8 Try.underlying28 HI.out HZ0.out HZ1.out HZ2.out rfl (by omega) _ _ _ (HO5.out.alloc _) HS5.out ⟨wr.heap.size, 0, none⟩ 1 1 [.int .i64 (lineAt j m c)] rfl (new_cells (vs := [.int .i64 (lineAt j m c)])) (by intro u hu; simp at hu; subst hu; rfl) (by rw [List.length_append]; unfold maxLen; omega) (by rw [List.length_append]; omega)
            rw [show ((freeTo P c j ++ freeTo1 c j s m).map (Value.int .i64)) ++ [.int .i64 (lineAt j m c)] = ((freeTo P c j ++ (freeTo1 c j s m ++ [lineAt j m c])).map (Value.int .i64)) by simp, ← HY.out] at hw8
            have hle : (freeTo P c j ++ freeTo1 c j s m).length + 1 = (freeTo P c j ++ freeTo1 c j s (m + 1)).length := by rw [HY.out]; simp; omega
            rw [hle] at hr8 hw8 hS8
            obtain ⟨M, hM⟩ : ∃ M, M = freeTo P c j ++ freeTo1 c j s (m + 1) := ⟨_, rfl⟩
            rw [← hM] at hr8 hw8 hS8
            have HM := Lib.hid hM
            have H8 := Lib.hid hw8
            have N8 := Lib.hid on8
            have N48 := Lib.hid on48
            have HS8 := Lib.hid hS8
            clear hw8 on8 on48 hS8 hle hM hat hom
            go_wp2_with fail
            refine HOI.out.mono ?_
            rintro e w' ⟨rfl, rfl⟩
            go_wp2_with (at_builtin; refine wpList_append_run _ rfl (.tmp 44) (.tmp 49) 28 rfl _ _ rfl rfl _ _ hr8 ?_)
            go_roundw
            · exact ⟨m + 1, by omega, by simp, by rw [← HM.out]; exact H8.out, N8.out, N48.out, HS8.out⟩
            · simp [intOf]
              omega
        · obtain rfl : m = L.length := by omega
          have z3 : decide ((L.length : Int) < (L.length : Int)) = false := by simp
          clear on5 on45
          go_wp2
          go_roundw
          · exact ⟨j + 1, by omega, by simp, by rw [HTS.out, ← HLL.out]; exact HO5.out, ON5.out⟩
          · simp [intOf]
            omega
    · obtain rfl : j = n := by omega
      have y3 : decide ((j : Int) < (j : Int)) = false := by simp
      rw [← HFIN.out] at ho
      obtain ⟨A', c', rfl, _, _⟩ := own_slice ho
      have HO := Lib.hid ho
      have ON := Lib.hid on
      clear ho on
      go_wp2
      go_ret
      exact ⟨_, rfl, A', c', rfl, HO.out, ON.out⟩
end Go.Proofs.Ytpenmnngjfncgaa
