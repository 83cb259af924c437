/- Law 7: the walk of PallocSpace. -/
import Derived.Test.YtpenmnngjfncgaaPoolK
import Derived.BigQuiet
namespace Go.Proofs.Ytpenmnngjfncgaa
open Go.RowKit Go.Proofs.FuMem Go.Proofs.FuClass Go.Proofs.FuPool
set_option maxRecDepth 100000
set_option maxHeartbeats 1500000 in
theorem walk_PallocSpace (slabs : Int) (A : Option Addr) (n c : Nat) (xs : List Deed) (ci : Int) (w : World) (_h1 : -9223372036854775808 ≤ slabs ∧ slabs ≤ 9223372036854775807) (h : Acts w A n xs) (_hc : n ≤ c) (_h2 : -9223372036854775808 ≤ ci ∧ ci ≤ 9223372036854775807) :
    Calls Try.prog 8 #[.int .i64 slabs, .slice A n c, .int .i64 ci] w fun e w' => e = .returned (.bool true) ∧ Only [] w w' := by
  have O0 := Lib.hid (Only.refl [] w)
  by_cases hbig : 60 < n
  · have q0 : decide ((60 : Int) < (n : Int)) = true := by rw [decide_eq_true_eq]; omega
    clear h
    go_enter Try.func8, Try.ntmps8
    go_wp2_with fail
    refine (law7_awake _).mono ?_
    rintro e wz ⟨rfl, oz⟩
    have OZ := Lib.hid (O0.out.trans0 oz)
    clear oz
    go_wp2
    go_ret
    exact ⟨rfl, OZ.out⟩
  have q0 : decide ((60 : Int) < (n : Int)) = false := by rw [decide_eq_false_iff_not]; omega
  have hn : n ≤ 60 := by omega
  have HPL := Lib.hid (law7_played slabs A n c xs w h hn)
  have hlo := low_lt slabs 32 (by omega)
  have h32 : (newPool (1 + low slabs 32)).length ≤ 32 := by simp [newPool]; omega
  have h1n : 1 ≤ (newPool (1 + low slabs 32)).length := by simp [newPool]
  obtain ⟨hok, hpl⟩ := playP_ok (newPool_ok (1 + low slabs 32)) h32 xs
  rw [← hpl] at h32 h1n
  clear hpl hlo h hbig
  generalize playP (newPool (1 + low slabs 32)) xs = P at *
  have HOK := Lib.hid hok
  have HLO := Lib.hid (fun w => law0_Low ci 4 w (by omega) (by omega))
  have hc3 : (0 : Int) ≤ ((low ci 4 : Nat) : Int) ∧ ((low ci 4 : Nat) : Int) ≤ 3 := by have := low_lt ci 4 (by omega); omega
  obtain ⟨cc, hcc⟩ : ∃ cc : Int, cc = ((low ci 4 : Nat) : Int) := ⟨_, rfl⟩
  rw [← hcc] at HLO hc3
  clear hcc
  clear hok
  go_enter Try.func8, Try.ntmps8
  go_wp2_with fail
  refine (HLO.out _).mono ?_
  rintro e w' ⟨rfl, rfl⟩
  go_wp2_with fail
  refine HPL.out.mono ?_
  rintro e w1 ⟨g, sb, rfl, p1, o1, hg, hs⟩
  have P1 := Lib.hid p1
  have O1 := Lib.hid o1
  clear p1 o1
  have HTA := Lib.hid (fun w (h : PoolAt w g sb P) => pool_Taken g sb P w h HOK.out)
  have hln : (takenOf P).length ≤ 256 := by have := blocksTo_length P P.length; unfold takenOf; omega
  have HSA := Lib.hid (fun w (h : PoolAt w g sb P) => pool_Slabs g sb P w h)
  have hsl : (slabsOf P).length ≤ 32 := by simp [slabsOf]; omega
  have HFA := Lib.hid (fun w (h : PoolAt w g sb P) => pool_Free g sb P cc w h HOK.out (by omega))
  have hfl : (freeOf P cc).length ≤ 256 := by have := freeTo_length P cc P.length; unfold freeOf; omega
  have HTK := Lib.hid (fun w (h : PoolAt w g sb P) => pool_Take g sb P cc w h HOK.out (by omega))
  have HNEW := Lib.hid (fun h => taken_new HOK.out h32 hc3 (c := cc) h)
  have HTZ := Lib.hid (fun (h : (takeA P cc).2 ≠ 0) => takeA_no hc3 h)
  have HTS := Lib.hid (fun (h : (takeA P cc).2 = 0) => (takeA_some HOK.out hc3 h))
  have HSP := Lib.hid (space_law (P := P) (c := cc))
  generalize takenOf P = l at *
  generalize slabsOf P = S at *
  generalize freeOf P cc = f at *
  go_wp2_with fail
  refine (HTA.out w1 P1.out).mono ?_
  rintro e w2 ⟨v2, rfl, A2, c2, rfl, b2, o2⟩
  have T2 := Lib.hid (ts_own b2 rfl)
  have hA2 : ∀ b off q, A2 = some ⟨b, off, q⟩ → b ≠ sb := fun b off q e => by
    obtain ⟨A', c', hvv, _, hge⟩ := own_slice b2
    cases hvv
    have := (hge b off q e).1
    have := P1.out.lts
    omega
  have HA2 := Lib.hid hA2
  have O2 := Lib.hid (O1.out.trans0 o2)
  have P2 := Lib.hid (P1.out.only0 o2)
  clear b2 o2 hA2
  go_wp2_with fail
  refine (HSA.out w2 P2.out).mono ?_
  rintro e w3 ⟨v3, rfl, A3, c3, rfl, b3, o3⟩
  have I3 := Lib.hid (is_own b3)
  have hA3 : ∀ b off q, A3 = some ⟨b, off, q⟩ → b ≠ sb := fun b off q e => by
    obtain ⟨A', c', hvv, _, hge⟩ := own_slice b3
    cases hvv
    have := (hge b off q e).1
    have := P2.out.lts
    omega
  have HA3 := Lib.hid hA3
  have O3 := Lib.hid (O2.out.trans0 o3)
  have P3 := Lib.hid (P2.out.only0 o3)
  have T3 := Lib.hid (T2.out.only0 o3)
  clear b3 o3 hA3
  go_wp2_with fail
  refine (HFA.out w3 P3.out).mono ?_
  rintro e w4 ⟨v4, rfl, A4, c4, rfl, b4, o4⟩
  have T4 := Lib.hid (T3.out.only0 o4)
  have I4 := Lib.hid (I3.out.only0 o4)
  have O4 := Lib.hid (O3.out.trans0 o4)
  have P4 := Lib.hid (P3.out.only0 o4)
  clear b4 o4
  obtain ⟨r0, hr0⟩ : ∃ r0 : Bool, r0 = decide (0 < f.length) := ⟨_, rfl⟩
  have hr1 : decide (0 < (f.length : Int)) = r0 := by rw [hr0]; simp
  rw [← hr0] at HSP
  have HR0 := Lib.hid hr0.symm
  clear hr0
  go_wp2
  clear hr1
  go_loop [10, 11] (fun rv kv => ∃ j : Nat, j ≤ S.length ∧ kv = .int .i64 j ∧ rv = .bool (r0 || decide (-1 ∈ S.take j))) (fun _ kv => S.length - (intOf kv).toNat)
  case atStart => exact ⟨0, by omega, rfl, by rw [← HR0.out]; simp⟩
  case round =>
    obtain ⟨j, hj, rfl, rfl⟩ := hrel
    by_cases hlt : j < S.length
    · have y1 : (0 : Int) ≤ (j : Int) := by omega
      have y2 : (j : Int) < (S.length : Int) := by omega
      have y3 : decide ((j : Int) < (S.length : Int)) = true := by rw [decide_eq_true_eq]; omega
      obtain ⟨b5, o5, e5, hc5⟩ := I4.out.at_ (by omega)
      have x5 := hc5 j hlt
      have hms : (-1 ∈ S.take (j + 1)) ↔ (-1 ∈ S.take j ∨ S[j] = -1) := by
        rw [List.take_add_one, List.getElem?_eq_getElem hlt]
        simp only [Option.toList_some, List.mem_append, List.mem_singleton]
        exact ⟨fun h => h.imp id Eq.symm, fun h => h.imp id Eq.symm⟩
      subst e5
      generalize S[j] = sv at *
      cases hr : (r0 || decide (-1 ∈ S.take j)) with
      | true =>
        have hr2 : (r0 || decide (-1 ∈ S.take (j + 1))) = true := by
          rw [Bool.or_eq_true, decide_eq_true_eq] at hr ⊢
          rcases hr with h | h
          · exact .inl h
          · exact .inr (hms.2 (.inl h))
        have HR2 := Lib.hid hr2
        clear hc5 hms hr hr2
        go_wp2
        go_round
        · exact ⟨j + 1, by omega, by simp, by rw [HR2.out]⟩
        · simp [intOf]
          omega
      | false =>
        have hr2 : (r0 || decide (-1 ∈ S.take (j + 1))) = (sv == -1) := by
          rw [Bool.or_eq_false_iff, decide_eq_false_iff_not] at hr
          rw [hr.1, Bool.false_or, Bool.eq_iff_iff, decide_eq_true_eq, beq_iff_eq, hms]
          exact ⟨fun h => h.resolve_left hr.2, fun h => .inr h⟩
        have HR2 := Lib.hid hr2
        clear hc5 hms hr hr2
        go_wp2
        go_round
        · exact ⟨j + 1, by omega, by simp, by rw [HR2.out]⟩
        · simp [intOf]
          omega
    · obtain rfl : j = S.length := by omega
      have y3 : decide ((S.length : Int) < (S.length : Int)) = false := by simp
      rw [List.take_length, ← HSP.out]
      clear hj hlt
      go_wp2_with fail
      refine (HTK.out w4 P4.out).mono ?_
      rintro e w5 ⟨rfl, p5, o5⟩
      have T5 := Lib.hid (T4.out.only o5 (fun b off q e hb => HA2.out b off q e (by simpa using hb)))
      have O5 := Lib.hid (O4.out.trans o5 (by intro b hb; simp at hb; omega))
      have P5 := Lib.hid p5
      clear p5 o5
      by_cases hz : (takeA P cc).2 = 0
      · obtain ⟨i, k, s, hf, _⟩ := HTS.out hz
        have hsm : (find P cc).isSome = true := by rw [hf]; rfl
        have hnew := HNEW.out hz
        rw [hsm, hz]
        have HNW := Lib.hid hnew
        generalize (takeA P cc).1 = ln at *
        clear hz hf hsm hnew
        go_wp2
        go_loop [14] (fun kv => ∃ j : Nat, j ≤ l.length ∧ kv = .int .i64 j) (fun kv => l.length - (intOf kv).toNat)
        case atStart => exact ⟨0, by omega, rfl⟩
        case round =>
          obtain ⟨j, hj, rfl⟩ := hrel
          by_cases hlt : j < l.length
          · have y1 : (0 : Int) ≤ (j : Int) := by omega
            have y2 : (j : Int) < (l.length : Int) := by omega
            have y3 : decide ((j : Int) < (l.length : Int)) = true := by rw [decide_eq_true_eq]; omega
            obtain ⟨x, hx⟩ : ∃ x, l[j]? = some x := ⟨_, List.getElem?_eq_getElem hlt⟩
            rcases T5.out.2 with h0 | ⟨b6, o6, e6, hc6⟩
            · omega
            obtain ⟨x0, _⟩ := hc6 j x hx
            have hne : (x.1 == ln) = false := by rw [beq_eq_false_iff_ne]; exact HNW.out x (List.mem_of_getElem? hx)
            subst e6
            generalize x.1 = xl at *
            clear hc6 hx
            go_wp2
            go_round
            · exact ⟨j + 1, by omega, by simp⟩
            · simp [intOf]
              omega
          · obtain rfl : j = l.length := by omega
            have y3 : decide ((l.length : Int) < (l.length : Int)) = false := by simp
            clear hj hlt
            go_wp2_with fail
            refine (law7_awake _).mono ?_
            rintro e wz ⟨rfl, oz⟩
            have OZ := Lib.hid (O5.out.trans0 oz)
            clear oz
            go_wp2
            go_ret
            exact ⟨rfl, OZ.out⟩
      · obtain ⟨hf, e0, e1⟩ := HTZ.out hz
        have hsm : (find P cc).isSome = false := by rw [hf]; rfl
        rw [hsm, e0]
        rw [e1] at P5
        clear hz hf hsm e0 e1
        go_wp2_with fail
        refine (HTA.out w5 P5.out).mono ?_
        rintro e w7 ⟨v7, rfl, A7, c7, rfl, b7, o7⟩
        have O7 := Lib.hid (O5.out.trans0 o7)
        have HST := Lib.hid (law0_SameTaken A7 A2 l.length c7 c2 l w7 (ts_own b7 rfl) (T5.out.only0 o7) (by omega))
        clear b7 o7
        go_wp2_with fail
        refine HST.out.mono ?_
        rintro e w8 ⟨rfl, o8⟩
        have O8 := Lib.hid (O7.out.trans0 o8)
        clear o8
        go_wp2
        go_loop [14] (fun kv => kv = .int .i64 0) (fun _ => 0)
        case atStart => rfl
        case round =>
          obtain rfl := hrel
          by_cases hl0 : 0 < l.length
          · have y3 : decide ((0 : Int) < (l.length : Int)) = true := by rw [decide_eq_true_eq]; omega
            have y4 : decide (0 < l.length) = true := by rw [decide_eq_true_eq]; omega
            clear hl0
            go_wp2_with fail
            refine (law7_awake _).mono ?_
            rintro e wz ⟨rfl, oz⟩
            have OZ := Lib.hid (O8.out.trans0 oz)
            clear oz
            go_wp2
            go_ret
            exact ⟨rfl, OZ.out⟩
          · have y3 : decide ((0 : Int) < (l.length : Int)) = false := by rw [decide_eq_false_iff_not]; omega
            have y4 : decide (0 < l.length) = false := by rw [decide_eq_false_iff_not]; omega
            clear hl0
            go_wp2_with fail
            refine (law7_awake _).mono ?_
            rintro e wz ⟨rfl, oz⟩
            have OZ := Lib.hid (O8.out.trans0 oz)
            clear oz
            go_wp2
            go_ret
            exact ⟨rfl, OZ.out⟩
end Go.Proofs.Ytpenmnngjfncgaa
