/- Law 7: the walks of PallocBack, PallocSpace, PallocLeast. -/
import Derived.Test.YtpenmnngjfncgaaPoolK
import Derived.BigQuiet
namespace Go.Proofs.Ytpenmnngjfncgaa
open Go.RowKit Go.Proofs.FuMem Go.Proofs.FuClass Go.Proofs.FuPool
set_option maxRecDepth 100000
theorem giveP_no {P : Pool} {line : Int} (h : giveA P line = 1) : giveP P line = P := by
  unfold giveA at h
  unfold giveP
  cases hb : blockAt P line with
  | none => rfl
  | some x => rw [hb] at h; cases h
set_option maxHeartbeats 1500000 in
theorem walk_PallocBack (slabs : Int) (A : Option Addr) (n c : Nat) (xs : List Deed) (ci : Int) (w : World) (_h1 : -9223372036854775808 ≤ slabs ∧ slabs ≤ 9223372036854775807) (h : Acts w A n xs) (_hc : n ≤ c) (_h2 : -9223372036854775808 ≤ ci ∧ ci ≤ 9223372036854775807) :
    Calls Try.prog 4 #[.int .i64 slabs, .slice A n c, .int .i64 ci] w fun e w' => e = .returned (.bool true) ∧ Only [] w w' := by
  have O0 := Lib.hid (Only.refl [] w)
  by_cases hbig : 60 < n
  · have q0 : decide ((60 : Int) < (n : Int)) = true := by rw [decide_eq_true_eq]; omega
    clear h
    go_enter Try.func4, Try.ntmps4
    go_wp2_with fail
    refine (law7_awake _).mono ?_
    rintro e wz ⟨rfl, oz⟩
    have OZ := Lib.hid (O0.out.trans0 oz)
    clear oz
    go_wp2
    go_ret
    exact ⟨rfl, OZ.out⟩
  have q0 : decide ((60 : Int) < (n : Int)) = false := by rw [decide_eq_false_iff_not]; omega
  have hn : n ≤ 60 := by omega
  have HPL := Lib.hid (law7_played slabs A n c xs w h hn)
  have hlo := low_lt slabs 32 (by omega)
  have h32 : (newPool (1 + low slabs 32)).length ≤ 32 := by simp [newPool]; omega
  have h1n : 1 ≤ (newPool (1 + low slabs 32)).length := by simp [newPool]
  obtain ⟨hok, hpl⟩ := playP_ok (newPool_ok (1 + low slabs 32)) h32 xs
  rw [← hpl] at h32 h1n
  clear hpl hlo h hbig
  generalize playP (newPool (1 + low slabs 32)) xs = P at *
  have HOK := Lib.hid hok
  have HLO := Lib.hid (fun w => law0_Low ci 4 w (by omega) (by omega))
  have hc3 : (0 : Int) ≤ ((low ci 4 : Nat) : Int) ∧ ((low ci 4 : Nat) : Int) ≤ 3 := by have := low_lt ci 4 (by omega); omega
  obtain ⟨cc, hcc⟩ : ∃ cc : Int, cc = ((low ci 4 : Nat) : Int) := ⟨_, rfl⟩
  rw [← hcc] at HLO hc3
  clear hcc
  clear hok
  go_enter Try.func4, Try.ntmps4
  go_wp2_with fail
  refine (HLO.out _).mono ?_
  rintro e w' ⟨rfl, rfl⟩
  go_wp2_with fail
  refine HPL.out.mono ?_
  rintro e w1 ⟨g, sb, rfl, p1, o1, hg, hs⟩
  have P1 := Lib.hid p1
  have O1 := Lib.hid o1
  clear p1 o1
  have HTA := Lib.hid (fun w (h : PoolAt w g sb P) => pool_Taken g sb P w h HOK.out)
  have hln : (takenOf P).length ≤ 256 := by have := blocksTo_length P P.length; unfold takenOf; omega
  have HSA := Lib.hid (fun w (h : PoolAt w g sb P) => pool_Slabs g sb P w h)
  have hsl : (slabsOf P).length ≤ 32 := by simp [slabsOf]; omega
  have HTK := Lib.hid (fun w (h : PoolAt w g sb P) => pool_Take g sb P cc w h HOK.out (by omega))
  have HGV := Lib.hid (fun w (h : PoolAt w g sb (takeP P cc)) => pool_Give g sb (takeP P cc) (takeA P cc).1 w h (takeP_ok HOK.out))
  have HGW := Lib.hid (fun w (h : PoolAt w g sb P) => pool_Give g sb P (takeA P cc).1 w h HOK.out)
  have HBK := Lib.hid (fun h => back_law HOK.out h32 hc3 (c := cc) h)
  have HTZ := Lib.hid (fun (h : (takeA P cc).2 ≠ 0) => (takeA_no hc3 h).2.1)
  generalize takenOf P = l at *
  generalize slabsOf P = S at *
  go_wp2_with fail
  refine (HTA.out w1 P1.out).mono ?_
  rintro e w2 ⟨v2, rfl, A2, c2, rfl, b2, o2⟩
  have T2 := Lib.hid (ts_own b2 rfl)
  have hA2 : ∀ b off q, A2 = some ⟨b, off, q⟩ → b ≠ sb := fun b off q e => by
    obtain ⟨A', c', hvv, _, hge⟩ := own_slice b2
    cases hvv
    have := (hge b off q e).1
    have := P1.out.lts
    omega
  have HA2 := Lib.hid hA2
  have O2 := Lib.hid (O1.out.trans0 o2)
  have P2 := Lib.hid (P1.out.only0 o2)
  clear b2 o2 hA2
  go_wp2_with fail
  refine (HSA.out w2 P2.out).mono ?_
  rintro e w3 ⟨v3, rfl, A3, c3, rfl, b3, o3⟩
  have I3 := Lib.hid (is_own b3)
  have hA3 : ∀ b off q, A3 = some ⟨b, off, q⟩ → b ≠ sb := fun b off q e => by
    obtain ⟨A', c', hvv, _, hge⟩ := own_slice b3
    cases hvv
    have := (hge b off q e).1
    have := P2.out.lts
    omega
  have HA3 := Lib.hid hA3
  have T3 := Lib.hid (T2.out.only0 o3)
  have O3 := Lib.hid (O2.out.trans0 o3)
  have P3 := Lib.hid (P2.out.only0 o3)
  clear b3 o3 hA3
  go_wp2_with fail
  refine (HTK.out w3 P3.out).mono ?_
  rintro e w4 ⟨rfl, p4, o4⟩
  have P4 := Lib.hid p4
  have T4 := Lib.hid (T3.out.only o4 (fun b off q e hb => HA2.out b off q e (by simpa using hb)))
  have I4 := Lib.hid (I3.out.only o4 (fun b off q e hb => HA3.out b off q e (by simpa using hb)))
  have O4 := Lib.hid (O3.out.trans o4 (by intro b hb; simp at hb; omega))
  clear p4 o4
  by_cases hz : (takeA P cc).2 = 0
  case neg =>
    have e0 := HTZ.out hz
    have f2 : (takeA P cc).2 = 4 := by rw [e0]
    rw [f2]
    generalize (takeA P cc).1 = ln at *
    clear hz e0 f2
    go_wp2_with fail
    refine (law7_awake _).mono ?_
    rintro e wz ⟨rfl, oz⟩
    have OZ := Lib.hid (O4.out.trans0 oz)
    clear oz
    go_wp2
    go_ret
    exact ⟨rfl, OZ.out⟩
  obtain ⟨k1, k2, k3⟩ := HBK.out hz
  have HK1 := Lib.hid k1
  have HK2 := Lib.hid k2
  have HK3 := Lib.hid k3
  have HZ := Lib.hid hz
  rw [HZ.out]
  generalize (takeA P cc).1 = ln at *
  clear hz k1 k2 k3
  go_wp2_with fail
  refine (HGV.out w4 P4.out).mono ?_
  rw [HK1.out, HK2.out]
  rintro e w5 ⟨rfl, p5, o5⟩
  have P5 := Lib.hid p5
  have T5 := Lib.hid (T4.out.only o5 (fun b off q e hb => HA2.out b off q e (by simpa using hb)))
  have I5 := Lib.hid (I4.out.only o5 (fun b off q e hb => HA3.out b off q e (by simpa using hb)))
  have O5 := Lib.hid (O4.out.trans o5 (by intro b hb; simp at hb; omega))
  clear p5 o5
  go_wp2_with fail
  refine (HGW.out w5 P5.out).mono ?_
  rw [HK3.out, show giveP P ln = P from giveP_no HK3.out]
  rintro e w6 ⟨rfl, p6, o6⟩
  have P6 := Lib.hid p6
  have T6 := Lib.hid (T5.out.only o6 (fun b off q e hb => HA2.out b off q e (by simpa using hb)))
  have I6 := Lib.hid (I5.out.only o6 (fun b off q e hb => HA3.out b off q e (by simpa using hb)))
  have O6 := Lib.hid (O5.out.trans o6 (by intro b hb; simp at hb; omega))
  clear p6 o6
  go_wp2_with fail
  refine (HTA.out w6 P6.out).mono ?_
  rintro e w7 ⟨v7, rfl, A7, c7, rfl, b7, o7⟩
  have P7 := Lib.hid (P6.out.only0 o7)
  have I7 := Lib.hid (I6.out.only0 o7)
  have O7 := Lib.hid (O6.out.trans0 o7)
  have HST := Lib.hid (law0_SameTaken A7 A2 l.length c7 c2 l w7 (ts_own b7 rfl) (T6.out.only0 o7) (by omega))
  clear b7 o7
  go_wp2_with fail
  refine HST.out.mono ?_
  rintro e w8 ⟨rfl, o8⟩
  have P8 := Lib.hid (P7.out.only0 o8)
  have I8 := Lib.hid (I7.out.only0 o8)
  have O8 := Lib.hid (O7.out.trans0 o8)
  clear o8
  go_wp2_with fail
  refine (HSA.out w8 P8.out).mono ?_
  rintro e w9 ⟨v9, rfl, A9, c9, rfl, b9, o9⟩
  have P9 := Lib.hid (P8.out.only0 o9)
  have O9 := Lib.hid (O8.out.trans0 o9)
  have HSI := Lib.hid (law0_SameInts A9 A3 S.length S.length c9 c3 S S w9 (is_own b9) (I8.out.only0 o9) (by omega) (by omega))
  rw [show (S == S) = true by simp] at HSI
  clear b9 o9
  go_wp2_with fail
  refine HSI.out.mono ?_
  rintro e wa ⟨rfl, oa⟩
  have PA := Lib.hid (P9.out.only0 oa)
  have OA := Lib.hid (O9.out.trans0 oa)
  clear oa
  go_wp2_with fail
  refine (HTK.out wa PA.out).mono ?_
  rw [HZ.out]
  rintro e wb ⟨rfl, pb, ob⟩
  have OB := Lib.hid (OA.out.trans ob (by intro b hb; simp at hb; omega))
  have hll : (ln == ln) = true := by simp
  clear pb ob
  go_wp2_with fail
  refine (law7_awake _).mono ?_
  rintro e wz ⟨rfl, oz⟩
  have OZ := Lib.hid (OB.out.trans0 oz)
  clear oz
  go_wp2
  go_ret
  exact ⟨rfl, OZ.out⟩
end Go.Proofs.Ytpenmnngjfncgaa
