/- Law 7: the walk of PallocWhole. -/
import Derived.Test.YtpenmnngjfncgaaPoolK
import Derived.Test.YtpenmnngjfncgaaPoolR
import Derived.BigQuiet
namespace Go.Proofs.Ytpenmnngjfncgaa
open Go.RowKit Go.Proofs.FuMem Go.Proofs.FuClass Go.Proofs.FuPool
set_option maxRecDepth 100000
set_option maxHeartbeats 1500000 in
theorem walk_PallocWhole (slabs : Int) (A : Option Addr) (n c : Nat) (xs : List Deed) (w : World) (_h1 : -9223372036854775808 ≤ slabs ∧ slabs ≤ 9223372036854775807) (h : Acts w A n xs) (_hc : n ≤ c) :
    Calls Try.prog 6 #[.int .i64 slabs, .slice A n c] w fun e w' => e = .returned (.bool true) ∧ Only [] w w' := by
  have O0 := Lib.hid (Only.refl [] w)
  by_cases hbig : 60 < n
  · have q0 : decide ((60 : Int) < (n : Int)) = true := by rw [decide_eq_true_eq]; omega
    clear h
    go_enter Try.func6, Try.ntmps6
    go_wp2_with fail
    refine (law7_awake _).mono ?_
    rintro e wz ⟨rfl, oz⟩
    have OZ := Lib.hid (O0.out.trans0 oz)
    clear oz
    go_wp2
    go_ret
    exact ⟨rfl, OZ.out⟩
  have q0 : decide ((60 : Int) < (n : Int)) = false := by rw [decide_eq_false_iff_not]; omega
  have hn : n ≤ 60 := by omega
  have HPL := Lib.hid (law7_played slabs A n c xs w h hn)
  have hlo := low_lt slabs 32 (by omega)
  have h32 : (newPool (1 + low slabs 32)).length ≤ 32 := by simp [newPool]; omega
  have h1n : 1 ≤ (newPool (1 + low slabs 32)).length := by simp [newPool]
  obtain ⟨hok, hpl⟩ := playP_ok (newPool_ok (1 + low slabs 32)) h32 xs
  rw [← hpl] at h32 h1n
  clear hpl hlo h hbig
  generalize playP (newPool (1 + low slabs 32)) xs = P at *
  have HOK := Lib.hid hok
  clear hok
  go_enter Try.func6, Try.ntmps6
  go_wp2_with fail
  refine HPL.out.mono ?_
  rintro e w1 ⟨g, sb, rfl, p1, o1, hg, hs⟩
  have P1 := Lib.hid p1
  have O1 := Lib.hid o1
  clear p1 o1
  have HTA := Lib.hid (fun w (h : PoolAt w g sb P) => pool_Taken g sb P w h HOK.out)
  have hln : (takenOf P).length ≤ 256 := by have := blocksTo_length P P.length; unfold takenOf; omega
  obtain ⟨l, hl⟩ : ∃ l, l = takenOf P := ⟨_, rfl⟩
  rw [← hl] at HTA hln
  have HL := Lib.hid hl
  clear hl
  go_wp2_with fail
  refine (HTA.out w1 P1.out).mono ?_
  rintro e w2 ⟨v2, rfl, A2, c2, rfl, b2, o2⟩
  have T2 := Lib.hid (ts_own b2 rfl)
  have hA2 : ∀ b off q, A2 = some ⟨b, off, q⟩ → b ≠ sb := fun b off q e => by
    obtain ⟨A', c', hvv, _, hge⟩ := own_slice b2
    cases hvv
    have := (hge b off q e).1
    have := P1.out.lts
    omega
  have HA2 := Lib.hid hA2
  have O2 := Lib.hid (O1.out.trans0 o2)
  have P2 := Lib.hid (P1.out.only0 o2)
  clear b2 o2 hA2
  go_wp2
  go_loopw [7] (fun kv wr => ∃ (j : Nat) (Q : Pool), j ≤ l.length ∧ kv = .int .i64 j ∧ PoolAt wr g sb Q ∧ Ok Q ∧ Q.length = P.length ∧ takenOf Q = l.drop j ∧ Only [] w wr ∧ Only [sb] w2 wr) (fun kv _ => l.length - (intOf kv).toNat)
  case atStart => exact ⟨0, P, by omega, rfl, P2.out, HOK.out, rfl, by rw [List.drop_zero, HL.out], O2.out, Only.refl _ _⟩
  case round =>
    obtain ⟨j, Q, hj, rfl, hp, hoq, hql, hqt, on, on2⟩ := hrel
    by_cases hlt : j < l.length
    · have y1 : (0 : Int) ≤ (j : Int) := by omega
      have y2 : (j : Int) < (l.length : Int) := by omega
      have y3 : decide ((j : Int) < (l.length : Int)) = true := by rw [decide_eq_true_eq]; omega
      obtain ⟨x, hx⟩ : ∃ x, l[j]? = some x := ⟨_, List.getElem?_eq_getElem hlt⟩
      have hqt2 : takenOf Q = x :: l.drop (j + 1) := by
        rw [hqt, List.drop_eq_getElem_cons hlt]
        rw [List.getElem?_eq_getElem hlt] at hx
        rw [Option.some.inj hx]
      obtain ⟨g1, g2⟩ := whole_step hoq (by omega) hqt2
      have HGV := Lib.hid (pool_Give g sb Q x.1 wr hp hoq)
      rw [g1] at HGV
      have hok2 := giveP_ok hoq (show Q.length ≤ 32 by omega) x.1
      have hlen2 : (giveP Q x.1).length = P.length := by rw [giveP_length]; exact hql
      have G2 := Lib.hid g2
      have K2 := Lib.hid hok2
      have L2 := Lib.hid hlen2
      rcases (T2.out.only on2 (fun b off q e hb => HA2.out b off q e (by simpa using hb))).2 with h0 | ⟨b6, o6, e6, hc6⟩
      · omega
      obtain ⟨x0, _⟩ := hc6 j x hx
      have ON := Lib.hid on
      have ON2 := Lib.hid on2
      subst e6
      generalize giveP Q x.1 = Q2 at *
      generalize x.1 = xl at *
      clear hc6 hx hqt hqt2 g1 g2 hok2 hlen2 hp hoq hql on on2
      go_wp2_with fail
      refine HGV.out.mono ?_
      rintro e w5 ⟨rfl, p5, o5⟩
      have P5 := Lib.hid p5
      have O5 := Lib.hid (ON.out.trans o5 (by intro b hb; simp at hb; omega))
      have O52 := Lib.hid (ON2.out.trans o5 (by intro b hb; exact .inl hb))
      clear p5 o5
      go_wp2
      go_roundw
      · exact ⟨j + 1, Q2, by omega, by simp, P5.out, K2.out, L2.out, G2.out, O5.out, O52.out⟩
      · simp [intOf]
        omega
    · obtain rfl : j = l.length := by omega
      have y3 : decide ((l.length : Int) < (l.length : Int)) = false := by simp
      rw [List.drop_length] at hqt
      obtain ⟨e1, e2⟩ := whole_end hoq (by omega) hqt
      have HSA := Lib.hid (pool_Slabs g sb Q wr hp)
      have hsl : (slabsOf Q).length ≤ 32 := by simp [slabsOf]; omega
      have HTK := Lib.hid (fun w (h : PoolAt w g sb Q) => pool_Take g sb Q 3 w h hoq (by omega))
      rw [e2] at HTK
      have E1 := Lib.hid e1
      have PR := Lib.hid hp
      have ON := Lib.hid on
      generalize slabsOf Q = S at *
      clear e1 e2 hp hoq hql hqt on on2 hj hlt
      go_wp2_with fail
      refine HSA.out.mono ?_
      rintro e w3 ⟨v3, rfl, A3, c3, rfl, b3, o3⟩
      have I3 := Lib.hid (is_own b3)
      have O3 := Lib.hid (ON.out.trans0 o3)
      have P3 := Lib.hid (PR.out.only0 o3)
      clear b3 o3
      go_wp2
      go_loop [9] (fun kv => ∃ i : Nat, i ≤ S.length ∧ kv = .int .i64 i) (fun kv => S.length - (intOf kv).toNat)
      case atStart => exact ⟨0, by omega, rfl⟩
      case round =>
        obtain ⟨i, hi, rfl⟩ := hrel
        by_cases hlt : i < S.length
        · have y1 : (0 : Int) ≤ (i : Int) := by omega
          have y2 : (i : Int) < (S.length : Int) := by omega
          have y4 : decide ((i : Int) < (S.length : Int)) = true := by rw [decide_eq_true_eq]; omega
          obtain ⟨b5, o5, e5, hc5⟩ := I3.out.at_ (by omega)
          have x5 := hc5 i hlt
          rw [E1.out i S[i] (List.getElem?_eq_getElem hlt)] at x5
          subst e5
          clear hc5
          go_wp2
          go_round
          · exact ⟨i + 1, by omega, by simp⟩
          · simp [intOf]
            omega
        · obtain rfl : i = S.length := by omega
          have y4 : decide ((S.length : Int) < (S.length : Int)) = false := by simp
          clear hi hlt
          go_wp2_with fail
          refine (HTK.out w3 P3.out).mono ?_
          rintro e w5 ⟨rfl, p5, o5⟩
          have O5 := Lib.hid (O3.out.trans o5 (by intro b hb; simp at hb; omega))
          clear p5 o5
          go_wp2_with fail
          refine (law7_awake _).mono ?_
          rintro e wz ⟨rfl, oz⟩
          have OZ := Lib.hid (O5.out.trans0 oz)
          clear oz
          go_wp2
          go_ret
          exact ⟨rfl, OZ.out⟩
end Go.Proofs.Ytpenmnngjfncgaa
