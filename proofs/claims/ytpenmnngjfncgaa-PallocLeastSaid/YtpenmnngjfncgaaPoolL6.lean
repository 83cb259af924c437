/- Law 7: the walk of PallocLeast. -/
import Derived.Test.YtpenmnngjfncgaaPoolK
import Derived.BigQuiet
namespace Go.Proofs.Ytpenmnngjfncgaa
open Go.RowKit Go.Proofs.FuMem Go.Proofs.FuClass Go.Proofs.FuPool
set_option maxRecDepth 100000
set_option maxHeartbeats 800000 in
theorem walk_PallocLeast (slabs : Int) (A : Option Addr) (n c : Nat) (xs : List Deed) (ci : Int) (w : World) (_h1 : -9223372036854775808 ≤ slabs ∧ slabs ≤ 9223372036854775807) (h : Acts w A n xs) (_hc : n ≤ c) (_h2 : -9223372036854775808 ≤ ci ∧ ci ≤ 9223372036854775807) :
    Calls Try.prog 7 #[.int .i64 slabs, .slice A n c, .int .i64 ci] w fun e w' => e = .returned (.bool true) ∧ Only [] w w' := by
  have O0 := Lib.hid (Only.refl [] w)
  by_cases hbig : 60 < n
  · have q0 : decide ((60 : Int) < (n : Int)) = true := by rw [decide_eq_true_eq]; omega
    clear h
    go_enter Try.func7, Try.ntmps7
    go_wp2_with fail
    refine (law7_awake _).mono ?_
    rintro e wz ⟨rfl, oz⟩
    have OZ := Lib.hid (O0.out.trans0 oz)
    clear oz
    go_wp2
    go_ret
    exact ⟨rfl, OZ.out⟩
  have q0 : decide ((60 : Int) < (n : Int)) = false := by rw [decide_eq_false_iff_not]; omega
  have hn : n ≤ 60 := by omega
  have HPL := Lib.hid (law7_played slabs A n c xs w h hn)
  have hlo := low_lt slabs 32 (by omega)
  have h32 : (newPool (1 + low slabs 32)).length ≤ 32 := by simp [newPool]; omega
  have h1n : 1 ≤ (newPool (1 + low slabs 32)).length := by simp [newPool]
  obtain ⟨hok, hpl⟩ := playP_ok (newPool_ok (1 + low slabs 32)) h32 xs
  rw [← hpl] at h32 h1n
  clear hpl hlo h hbig
  generalize playP (newPool (1 + low slabs 32)) xs = P at *
  have HOK := Lib.hid hok
  have HLO := Lib.hid (fun w => law0_Low ci 4 w (by omega) (by omega))
  have hc3 : (0 : Int) ≤ ((low ci 4 : Nat) : Int) ∧ ((low ci 4 : Nat) : Int) ≤ 3 := by have := low_lt ci 4 (by omega); omega
  obtain ⟨cc, hcc⟩ : ∃ cc : Int, cc = ((low ci 4 : Nat) : Int) := ⟨_, rfl⟩
  rw [← hcc] at HLO hc3
  clear hcc
  clear hok
  go_enter Try.func7, Try.ntmps7
  go_wp2_with fail
  refine (HLO.out _).mono ?_
  rintro e w' ⟨rfl, rfl⟩
  go_wp2_with fail
  refine HPL.out.mono ?_
  rintro e w1 ⟨g, sb, rfl, p1, o1, hg, hs⟩
  have P1 := Lib.hid p1
  have O1 := Lib.hid o1
  clear p1 o1
  have HSA := Lib.hid (fun w (h : PoolAt w g sb P) => pool_Slabs g sb P w h)
  have hsl : (slabsOf P).length ≤ 32 := by simp [slabsOf]; omega
  have HFA := Lib.hid (fun w (h : PoolAt w g sb P) => pool_Free g sb P cc w h HOK.out (by omega))
  have hfl : (freeOf P cc).length ≤ 256 := by have := freeTo_length P cc P.length; unfold freeOf; omega
  have HTK := Lib.hid (fun w (h : PoolAt w g sb P) => pool_Take g sb P cc w h HOK.out (by omega))
  have HTZ := Lib.hid (fun (h : (takeA P cc).2 ≠ 0) => takeA_no hc3 h)
  have HLE := Lib.hid (fun h => least_law (P := P) (c := cc) hc3 h)
  have HRI := Lib.hid (free_rise P hc3)
  generalize slabsOf P = S at *
  generalize freeOf P cc = f at *
  go_wp2_with fail
  refine (HFA.out w1 P1.out).mono ?_
  rintro e w2 ⟨v2, rfl, A2, c2, rfl, b2, o2⟩
  have I2 := Lib.hid (is_own b2)
  have hA2 : ∀ b off q, A2 = some ⟨b, off, q⟩ → b ≠ sb := fun b off q e => by
    obtain ⟨A', c', hvv, _, hge⟩ := own_slice b2
    cases hvv
    have := (hge b off q e).1
    have := P1.out.lts
    omega
  have HA2 := Lib.hid hA2
  have O2 := Lib.hid (O1.out.trans0 o2)
  have P2 := Lib.hid (P1.out.only0 o2)
  clear b2 o2 hA2
  go_wp2_with fail
  refine (HSA.out w2 P2.out).mono ?_
  rintro e w3 ⟨v3, rfl, A3, c3, rfl, b3, o3⟩
  have I3 := Lib.hid (is_own b3)
  have hA3 : ∀ b off q, A3 = some ⟨b, off, q⟩ → b ≠ sb := fun b off q e => by
    obtain ⟨A', c', hvv, _, hge⟩ := own_slice b3
    cases hvv
    have := (hge b off q e).1
    have := P2.out.lts
    omega
  have HA3 := Lib.hid hA3
  have O3 := Lib.hid (O2.out.trans0 o3)
  have P3 := Lib.hid (P2.out.only0 o3)
  have F3 := Lib.hid (I2.out.only0 o3)
  clear b3 o3 hA3
  go_wp2_with fail
  refine (HTK.out w3 P3.out).mono ?_
  rintro e w5 ⟨rfl, p5, o5⟩
  have F5 := Lib.hid (F3.out.only o5 (fun b off q e hb => HA2.out b off q e (by simpa using hb)))
  have I5 := Lib.hid (I3.out.only o5 (fun b off q e hb => HA3.out b off q e (by simpa using hb)))
  have O5 := Lib.hid (O3.out.trans o5 (by intro b hb; simp at hb; omega))
  clear p5 o5
  by_cases hz : (takeA P cc).2 = 0
  case neg =>
    obtain ⟨_, e0, _⟩ := HTZ.out hz
    have f2 : (takeA P cc).2 = 4 := by rw [e0]
    rw [f2]
    generalize (takeA P cc).1 = ln at *
    clear hz e0 f2
    go_wp2_with fail
    refine (law7_awake _).mono ?_
    rintro e wz ⟨rfl, oz⟩
    have OZ := Lib.hid (O5.out.trans0 oz)
    clear oz
    go_wp2
    go_ret
    exact ⟨rfl, OZ.out⟩
  obtain ⟨k1, k2, k3⟩ := HLE.out hz
  have HZ := Lib.hid hz
  rw [HZ.out]
  generalize (takeA P cc).1 = ln at *
  have HK1 := Lib.hid k1
  have HK2 := Lib.hid k2
  have HK3 := Lib.hid k3
  clear hz k1 k2 k3
  go_wp2
  go_loopw [12] (fun kv wr => ∃ j : Nat, j ≤ f.length ∧ kv = .int .i64 j ∧ Only [] w5 wr) (fun kv _ => f.length - (intOf kv).toNat)
  case atStart => exact ⟨0, by omega, rfl, Only.refl _ _⟩
  case round =>
    obtain ⟨j, hj, rfl, on⟩ := hrel
    by_cases hlt : j < f.length
    · have y1 : (0 : Int) ≤ (j : Int) := by omega
      have y2 : (j : Int) < (f.length : Int) := by omega
      have y3 : decide ((j : Int) < (f.length : Int)) = true := by rw [decide_eq_true_eq]; omega
      obtain ⟨b5, o5, e5, hc5⟩ := (F5.out.only0 on).at_ (by omega)
      have x5 := hc5 j hlt
      have hle := HK1.out f[j] (List.getElem_mem _)
      have q1 : decide (f[j] < ln) = false := by rw [decide_eq_false_iff_not]; omega
      have ON := Lib.hid on
      subst e5
      by_cases hj0 : j = 0
      · have q2 : decide ((0 : Int) < (j : Int)) = false := by rw [decide_eq_false_iff_not]; omega
        have q2n : decide (0 < j) = false := by rw [decide_eq_false_iff_not]; omega
        generalize f[j] = fv at *
        clear hc5 hle on hj0
        go_wp2
        go_quiet (fail)
        go_wp2
        go_roundw
        · exact ⟨j + 1, by omega, by simp, ON.out.drewN _⟩
        · simp [intOf]
          omega
      · obtain ⟨i, hij⟩ : ∃ i, j = i + 1 := ⟨j - 1, by omega⟩
        have x6 := hc5 i (by omega)
        have hpr := HRI.out
        rw [List.pairwise_iff_getElem] at hpr
        have hlt2 := hpr i j (by omega) hlt (by omega)
        have q3 : decide (f[j] ≤ f[i]) = false := by rw [decide_eq_false_iff_not]; omega
        have q2 : decide ((0 : Int) < (j : Int)) = true := by rw [decide_eq_true_eq]; omega
        have q2n : decide (0 < j) = true := by rw [decide_eq_true_eq]; omega
        have q4 : IntKind.i64.wrap ((j : Int) - 1) = (i : Int) := by rw [IntKind.wrap_i64]; omega
        have q4b : (j : Int) - 1 = (i : Int) := by omega
        have q5 : (0 : Int) ≤ (i : Int) := by omega
        have q6 : (i : Int) < (f.length : Int) := by omega
        generalize f[j] = fv at *
        generalize f[i] = fw at *
        clear hc5 hle on hpr hlt2 hj0 hij
        go_wp2
        go_quiet (fail)
        go_wp2
        go_roundw
        · exact ⟨j + 1, by omega, by simp, ON.out.drewN _⟩
        · simp [intOf]
          omega
    · obtain rfl : j = f.length := by omega
      have y3 : decide ((f.length : Int) < (f.length : Int)) = false := by simp
      have O6 := Lib.hid (O5.out.trans0 on)
      by_cases hf0 : 0 < f.length
      · have z1 : decide ((0 : Int) < (f.length : Int)) = true := by rw [decide_eq_true_eq]; omega
        have z2 : decide (0 < f.length) = true := by rw [decide_eq_true_eq]; omega
        have z3 : (0 : Int) < (f.length : Int) := by omega
        obtain ⟨b5, o5, e5, hc5⟩ := (F5.out.only0 on).at_ (by omega)
        have x5 := hc5 0 hf0
        have h0 := HK2.out hf0
        rw [List.getElem?_eq_getElem hf0] at h0
        rw [Option.some.inj h0, Nat.add_zero] at x5
        have q1 : (ln == ln) = true := by simp
        subst e5
        clear hc5 h0 on
        go_wp2_with fail
        refine (law7_awake _).mono ?_
        rintro e wz ⟨rfl, oz⟩
        have OZ := Lib.hid (O6.out.trans0 oz)
        clear oz
        go_wp2
        go_ret
        exact ⟨rfl, OZ.out⟩
      · have hfn : f.length = 0 := by omega
        have z1 : decide ((0 : Int) < (f.length : Int)) = false := by rw [decide_eq_false_iff_not]; omega
        have z2 : decide (0 < f.length) = false := by rw [decide_eq_false_iff_not]; omega
        obtain ⟨k, m1, m2, m3⟩ := HK3.out hfn
        have hkl : k < S.length := (List.getElem?_eq_some_iff.1 m1).1
        have M1 := Lib.hid m1
        have M2 := Lib.hid m2
        have M3 := Lib.hid m3
        have I6 := Lib.hid (I5.out.only0 on)
        clear m1 m2 m3 on hf0 hj
        go_wp2
        go_loop [13] (fun kv => ∃ i : Nat, i ≤ k ∧ kv = .int .i64 i) (fun kv => S.length - (intOf kv).toNat)
        case atStart => exact ⟨0, by omega, rfl⟩
        case round =>
          obtain ⟨i, hi, rfl⟩ := hrel
          have y1 : (0 : Int) ≤ (i : Int) := by omega
          have y2 : (i : Int) < (S.length : Int) := by omega
          have y4 : decide ((i : Int) < (S.length : Int)) = true := by rw [decide_eq_true_eq]; omega
          obtain ⟨b5, o5, e5, hc5⟩ := I6.out.at_ (by omega)
          have x5 := hc5 i (by omega)
          subst e5
          by_cases hik : i = k
          · subst hik
            have h1 := M1.out
            rw [List.getElem?_eq_getElem hkl] at h1
            rw [Option.some.inj h1] at x5
            have q1 : (ln == 2 + 8 * (i : Int)) = true := by rw [beq_iff_eq]; exact M2.out
            clear hc5 h1
            go_wp2_with fail
            refine (law7_awake _).mono ?_
            rintro e wz ⟨rfl, oz⟩
            have OZ := Lib.hid (O6.out.trans0 oz)
            clear oz
            go_wp2
            go_ret
            exact ⟨rfl, OZ.out⟩
          · have h3 := M3.out i (by omega)
            rw [List.getElem?_eq_getElem (show i < S.length by omega)] at h3
            have q1 : (S[i]'(by omega) == -1) = false := by rw [beq_eq_false_iff_ne]; exact fun h => h3 (by rw [h])
            clear hc5 h3
            generalize S[i]'(by omega) = sv at *
            go_wp2
            go_round
            · exact ⟨i + 1, by omega, by simp⟩
            · simp [intOf]
              omega
end Go.Proofs.Ytpenmnngjfncgaa
