/- Law 7: the walk of PallocMarks. -/
import Derived.Test.YtpenmnngjfncgaaPoolK
import Derived.Test.YtpenmnngjfncgaaPoolR
import Derived.BigQuiet
namespace Go.Proofs.Ytpenmnngjfncgaa
open Go.RowKit Go.Proofs.FuMem Go.Proofs.FuClass Go.Proofs.FuPool
set_option maxRecDepth 100000
theorem keep_ok {P : Pool} (hP : Ok P) {f : Int → Bool} : Ok (keepP f P) := by
  intro x hx
  obtain ⟨i, hi, e⟩ := List.getElem_of_mem hx
  have hg : (keepP f P)[i]? = some x := by rw [List.getElem?_eq_getElem hi, e]
  rw [keepP_get, Option.map_eq_some_iff] at hg
  obtain ⟨s, hs, rfl⟩ := hg
  have ho := hP s (List.mem_of_getElem? hs)
  have hat : ∀ k, (keepS f i s).taken[k]? = some true → s.at k = true ∧ k < 8 := fun k hk => by
    have h1 := at_of hk
    have h2 : k < 8 := by
      have := (List.getElem?_eq_some_iff.1 hk).1
      rw [keepS_len] at this
      exact this
    rw [keepT_at f i s h2, Bool.and_eq_true] at h1
    exact ⟨h1.1, h2⟩
  refine ⟨keepS_len f i s, fun h0 => if_pos h0, fun h0 => ?_, fun k hk => ?_⟩
  · have hc : (keepS f i s).cls = s.cls := if_neg h0
    rw [hc]
    have : 0 < (keepS f i s).taken.count true := by unfold Slab.n at h0; omega
    obtain ⟨k, hk, e⟩ := List.getElem_of_mem (List.count_pos_iff.1 this)
    have h1 := (hat k (by rw [List.getElem?_eq_getElem hk, e])).1
    exact ho.busy (by have := n_pos h1; omega)
  · rw [keepS_yes (at_of hk)]
    exact ho.fits k (at_some (hat k hk).1)
set_option maxHeartbeats 1500000 in
theorem walk_PallocMarks (slabs : Int) (A : Option Addr) (n c : Nat) (xs : List Deed) (ci : Int) (w : World) (_h1 : -9223372036854775808 ≤ slabs ∧ slabs ≤ 9223372036854775807) (h : Acts w A n xs) (_hc : n ≤ c) (_h2 : -9223372036854775808 ≤ ci ∧ ci ≤ 9223372036854775807) :
    Calls Try.prog 5 #[.int .i64 slabs, .slice A n c, .int .i64 ci] w fun e w' => e = .returned (.bool true) ∧ Only [] w w' := by
  have O0 := Lib.hid (Only.refl [] w)
  by_cases hbig : 60 < n
  · have q0 : decide ((60 : Int) < (n : Int)) = true := by rw [decide_eq_true_eq]; omega
    clear h
    go_enter Try.func5, Try.ntmps5
    go_wp2_with fail
    refine (law7_awake _).mono ?_
    rintro e wz ⟨rfl, oz⟩
    have OZ := Lib.hid (O0.out.trans0 oz)
    clear oz
    go_wp2
    go_ret
    exact ⟨rfl, OZ.out⟩
  have q0 : decide ((60 : Int) < (n : Int)) = false := by rw [decide_eq_false_iff_not]; omega
  have hn : n ≤ 60 := by omega
  have HPL := Lib.hid (law7_played slabs A n c xs w h hn)
  have hlo := low_lt slabs 32 (by omega)
  have h32 : (newPool (1 + low slabs 32)).length ≤ 32 := by simp [newPool]; omega
  have h1n : 1 ≤ (newPool (1 + low slabs 32)).length := by simp [newPool]
  obtain ⟨hok, hpl⟩ := playP_ok (newPool_ok (1 + low slabs 32)) h32 xs
  rw [← hpl] at h32 h1n
  clear hpl hlo h hbig
  generalize playP (newPool (1 + low slabs 32)) xs = P at *
  have HOK := Lib.hid hok
  clear hok
  go_enter Try.func5, Try.ntmps5
  go_wp2_with fail
  refine HPL.out.mono ?_
  rintro e w1 ⟨g, sb, rfl, p1, o1, hg, hs⟩
  have P1 := Lib.hid p1
  have O1 := Lib.hid o1
  clear p1 o1
  have HTA := Lib.hid (fun g sb w (h : PoolAt w g sb P) => pool_Taken g sb P w h HOK.out)
  have hln : (takenOf P).length ≤ 256 := by have := blocksTo_length P P.length; unfold takenOf; omega
  have HSA := Lib.hid (fun g sb w (h : PoolAt w g sb P) => pool_Slabs g sb P w h)
  have hsl : (slabsOf P).length = P.length := by simp [slabsOf]
  have HNE := Lib.hid (fun w => pool_New P.length w h1n h32)
  have HKN := Lib.hid (keep_none P)
  obtain ⟨l, hl⟩ : ∃ l, l = takenOf P := ⟨_, rfl⟩
  have HMS := Lib.hid (fun (f : Int → Bool) (x : Int × Int) (hx : x ∈ takenOf P) (hf : f x.1 = false) => mark_step HOK.out h32 hx hf)
  have HKA := Lib.hid (fun (f : Int → Bool) (h : ∀ x ∈ takenOf P, f x.1 = true) => keep_all HOK.out h)
  have HLT := Lib.hid (taken_lt P)
  have HPLC := Lib.hid (fun (x : Int × Int) (hx : x ∈ takenOf P) => taken_place h32 hx)
  rw [← hl] at HTA hln HMS HKA HLT HPLC
  clear hl
  obtain ⟨S, hS⟩ : ∃ S, S = slabsOf P := ⟨_, rfl⟩
  rw [← hS] at HSA hsl
  clear hS
  have HSN := Lib.hid hsl
  have hs32 : S.length ≤ 32 := by omega
  have HKL := Lib.hid (fun f => (show (keepP f P).length ≤ 32 ∧ Ok (keepP f P) ∨ True from .inr trivial))
  rw [← hsl] at HNE
  clear hsl HKL
  go_wp2_with fail
  refine (HTA.out g sb w1 P1.out).mono ?_
  rintro e w2 ⟨v2, rfl, A2, c2, rfl, b2, o2⟩
  have T2 := Lib.hid (ts_own b2 rfl)
  have hA2 : ∀ b off q, A2 = some ⟨b, off, q⟩ → b < w2.heap.size := fun b off q e => by
    obtain ⟨A', c', hvv, _, hge⟩ := own_slice b2
    cases hvv
    exact (hge b off q e).2
  have HA2 := Lib.hid hA2
  have O2 := Lib.hid (O1.out.trans0 o2)
  have P2 := Lib.hid (P1.out.only0 o2)
  clear b2 o2 hA2
  go_wp2_with fail
  refine (HSA.out g sb w2 P2.out).mono ?_
  rintro e w3 ⟨v3, rfl, A3, c3, rfl, b3, o3⟩
  have T3 := Lib.hid (T2.out.only0 o3)
  have O3 := Lib.hid (O2.out.trans0 o3)
  have P3 := Lib.hid (P2.out.only0 o3)
  have S3 := Lib.hid o3.size
  clear b3 o3
  go_wp2_with fail
  refine (HNE.out w3).mono ?_
  rintro e w4 ⟨g2, sb2, rfl, p4, o4, hg2, hs2⟩
  have hpg := P3.out.ltg
  have hps := P3.out.lts
  have Q4 := Lib.hid p4
  have T4 := Lib.hid (T3.out.only0 o4)
  have O4 := Lib.hid (O3.out.trans0 o4)
  have P4 := Lib.hid (P3.out.only0 o4)
  have HNB := Lib.hid (show ∀ b off q, A2 = some ⟨b, off, q⟩ → b ∉ [sb2] from fun b off q e hb => by have h1 := HA2.out b off q e; have h2 := S3.out; simp at hb; omega)
  rw [HSN.out, ← HKN.out] at Q4
  clear p4 o4
  have hgs : g ≠ sb2 ∧ sb ≠ sb2 := by omega
  obtain ⟨k, hk0, hkl⟩ : ∃ k : Nat, (l.length = 0 → k = 0) ∧ (0 < l.length → k < l.length ∧ k = low ci l.length) := by
    by_cases h0 : l.length = 0
    · exact ⟨0, fun _ => rfl, fun h => by omega⟩
    · exact ⟨low ci l.length, fun h => absurd h h0, fun h => ⟨low_lt _ _ h, rfl⟩⟩
  have HK := Lib.hid hkl
  have TAIL : Hid (∀ wr : World, PoolAt wr g2 sb2 (keepP (marked l k l.length) P) → True) := Lib.hid (fun _ _ => trivial)
  clear TAIL
  by_cases hl0 : l.length = 0
  · have e1 : decide ((0 : Int) < (l.length : Int)) = false := by rw [decide_eq_false_iff_not]; omega
    have e2 : decide (0 < l.length) = false := by rw [decide_eq_false_iff_not]; omega
    obtain rfl := hk0 hl0
    have HL0 := Lib.hid hl0
    clear hk0 hkl hl0
    go_wp2
    go_loopw [12] (fun iv wr => ∃ j : Nat, j ≤ l.length ∧ iv = .int .i64 ((j : Int) - 1) ∧ PoolAt wr g2 sb2 (keepP (marked l 0 j) P) ∧ Only [] w wr ∧ Only [sb2] w4 wr) (fun iv _ => (intOf iv + 1).toNat)
    case atStart => exact ⟨l.length, by omega, by simp, by rw [marked_start]; exact Q4.out, O4.out, Only.refl _ _⟩
    case round =>
      obtain ⟨j, hj, rfl, hp, on, on4⟩ := hrel
      have hpp := P4.out.only on4 (by simpa using hgs.1) (by simpa using hgs.2)
      have htt := T4.out.only on4 HNB.out
      by_cases hj0 : j = 0
      · subst hj0
        have hfin : keepP (marked l 0 0) P = P := HKA.out _ (fun x hx => by have := HL0.out; rw [List.length_eq_zero_iff] at this; rw [this] at hx; cases hx)
        rw [hfin] at hp
        have PR := Lib.hid hp
        have ON := Lib.hid on
        have PP := Lib.hid hpp
        have TT := Lib.hid htt
        clear hp on on4 hpp htt hfin
        go_wp2_with fail
        refine (HTA.out g2 sb2 wr PR.out).mono ?_
        rintro e w7 ⟨v7, rfl, A7, c7, rfl, b7, o7⟩
        have P7 := Lib.hid (PP.out.only0 o7)
        have Q7 := Lib.hid (PR.out.only0 o7)
        have O7 := Lib.hid (ON.out.trans0 o7)
        have HST := Lib.hid (law0_SameTaken A7 A2 l.length c7 c2 l w7 (ts_own b7 rfl) (TT.out.only0 o7) (by omega))
        clear b7 o7
        go_wp2_with fail
        refine HST.out.mono ?_
        rintro e w8 ⟨rfl, o8⟩
        have P8 := Lib.hid (P7.out.only0 o8)
        have Q8 := Lib.hid (Q7.out.only0 o8)
        have O8 := Lib.hid (O7.out.trans0 o8)
        clear o8
        go_wp2_with fail
        refine (HSA.out g2 sb2 w8 Q8.out).mono ?_
        rintro e w9 ⟨v9, rfl, A9, c9, rfl, b9, o9⟩
        have I9 := Lib.hid (is_own b9)
        have P9 := Lib.hid (P8.out.only0 o9)
        have O9 := Lib.hid (O8.out.trans0 o9)
        clear b9 o9
        go_wp2_with fail
        refine (HSA.out g sb w9 P9.out).mono ?_
        rintro e wa ⟨va, rfl, Aa, ca, rfl, ba, oa⟩
        have OA := Lib.hid (O9.out.trans0 oa)
        have HSI := Lib.hid (law0_SameInts A9 Aa S.length S.length c9 ca S S wa (I9.out.only0 oa) (is_own ba) (by omega) (by omega))
        rw [show (S == S) = true by simp] at HSI
        clear ba oa
        go_wp2_with fail
        refine HSI.out.mono ?_
        rintro e wb ⟨rfl, ob⟩
        have OB := Lib.hid (OA.out.trans0 ob)
        clear ob
        go_wp2_with fail
        refine (law7_awake _).mono ?_
        rintro e wz ⟨rfl, oz⟩
        have OZ := Lib.hid (OB.out.trans0 oz)
        clear oz
        go_wp2
        go_ret
        exact ⟨rfl, OZ.out⟩
      · exact absurd hj (by have := HL0.out; omega)

  · have e1 : decide ((0 : Int) < (l.length : Int)) = true := by rw [decide_eq_true_eq]; omega
    have e2 : decide (0 < l.length) = true := by rw [decide_eq_true_eq]; omega
    have HLO := Lib.hid (fun w => law0_Low ci l.length w (by omega) (by omega))
    rw [← (hkl (by omega)).2] at HLO
    have hkb : k < l.length := (hkl (by omega)).1
    clear hk0 hkl hl0
    go_wp2_with fail
    refine (HLO.out _).mono ?_
    rintro e w' ⟨rfl, rfl⟩
    go_wp2
    go_loopw [12] (fun iv wr => ∃ j : Nat, j ≤ l.length ∧ iv = .int .i64 ((j : Int) - 1) ∧ PoolAt wr g2 sb2 (keepP (marked l k j) P) ∧ Only [] w wr ∧ Only [sb2] w4 wr) (fun iv _ => (intOf iv + 1).toNat)
    case atStart => exact ⟨l.length, by omega, by simp, by rw [marked_start]; exact Q4.out, O4.out, Only.refl _ _⟩
    case round =>
      obtain ⟨j, hj, rfl, hp, on, on4⟩ := hrel
      have hpp := P4.out.only on4 (by simpa using hgs.1) (by simpa using hgs.2)
      have htt := T4.out.only on4 HNB.out
      by_cases hj0 : j = 0
      · subst hj0
        have hfin : keepP (marked l k 0) P = P := HKA.out _ (marked_all hkb)
        rw [hfin] at hp
        have PR := Lib.hid hp
        have ON := Lib.hid on
        have PP := Lib.hid hpp
        have TT := Lib.hid htt
        clear hp on on4 hpp htt hfin
        go_wp2_with fail
        refine (HTA.out g2 sb2 wr PR.out).mono ?_
        rintro e w7 ⟨v7, rfl, A7, c7, rfl, b7, o7⟩
        have P7 := Lib.hid (PP.out.only0 o7)
        have Q7 := Lib.hid (PR.out.only0 o7)
        have O7 := Lib.hid (ON.out.trans0 o7)
        have HST := Lib.hid (law0_SameTaken A7 A2 l.length c7 c2 l w7 (ts_own b7 rfl) (TT.out.only0 o7) (by omega))
        clear b7 o7
        go_wp2_with fail
        refine HST.out.mono ?_
        rintro e w8 ⟨rfl, o8⟩
        have P8 := Lib.hid (P7.out.only0 o8)
        have Q8 := Lib.hid (Q7.out.only0 o8)
        have O8 := Lib.hid (O7.out.trans0 o8)
        clear o8
        go_wp2_with fail
        refine (HSA.out g2 sb2 w8 Q8.out).mono ?_
        rintro e w9 ⟨v9, rfl, A9, c9, rfl, b9, o9⟩
        have I9 := Lib.hid (is_own b9)
        have P9 := Lib.hid (P8.out.only0 o9)
        have O9 := Lib.hid (O8.out.trans0 o9)
        clear b9 o9
        go_wp2_with fail
        refine (HSA.out g sb w9 P9.out).mono ?_
        rintro e wa ⟨va, rfl, Aa, ca, rfl, ba, oa⟩
        have OA := Lib.hid (O9.out.trans0 oa)
        have HSI := Lib.hid (law0_SameInts A9 Aa S.length S.length c9 ca S S wa (I9.out.only0 oa) (is_own ba) (by omega) (by omega))
        rw [show (S == S) = true by simp] at HSI
        clear ba oa
        go_wp2_with fail
        refine HSI.out.mono ?_
        rintro e wb ⟨rfl, ob⟩
        have OB := Lib.hid (OA.out.trans0 ob)
        clear ob
        go_wp2_with fail
        refine (law7_awake _).mono ?_
        rintro e wz ⟨rfl, oz⟩
        have OZ := Lib.hid (OB.out.trans0 oz)
        clear oz
        go_wp2
        go_ret
        exact ⟨rfl, OZ.out⟩
      · obtain ⟨i, rfl⟩ : ∃ i, j = i + 1 := ⟨j - 1, by omega⟩
        have hkk : k < l.length := (HK.out (by omega)).1
        obtain ⟨m, hm⟩ : ∃ m, m = (i + k) % l.length := ⟨_, rfl⟩
        have hml : m < l.length := by rw [hm]; exact Nat.mod_lt _ (by omega)
        obtain ⟨x, hx⟩ : ∃ x, l[m]? = some x := ⟨_, List.getElem?_eq_getElem hml⟩
        have hxm := List.mem_of_getElem? hx
        obtain ⟨s1, s2⟩ := marked_step HLT.out (k := k) (j := i) (by omega) (by rw [← hm]; exact hx)
        obtain ⟨m1, m2, m3⟩ := HMS.out (marked l k (i + 1)) x hxm s1
        rw [← s2] at m2 m3
        rcases htt.2 with h0 | ⟨b6, o6, e6, hc6⟩
        · omega
        obtain ⟨x0, x1⟩ := hc6 m x hx
        obtain ⟨_, _, _, _, _, _, q1, q2, q3, q4, _⟩ := HPLC.out x hxm
        have hal : Only [] wr (wr.alloc (.cells #[.int .i64 x.1, .int .i64 x.2] 32)) := (Only.refl _ _).alloc _
        have HM1 := Lib.hid (pool_Mark g2 sb2 (keepP (marked l k (i + 1)) P) x.1 x.2 _ (hp.only0 hal) (keep_ok HOK.out) (by omega))
        have HM2 := Lib.hid (fun w h => pool_Mark g2 sb2 (keepP (marked l k i) P) x.1 x.2 w h (keep_ok HOK.out) (by omega))
        have hbn := Blk.new wr 32 #[.int .i64 x.1, .int .i64 x.2]
        have HBN := Lib.hid hbn
        have HSB := Lib.hid hp.lts
        rw [m1, m2] at HM1
        rw [m3, show markP (keepP (marked l k i) P) x.1 x.2 = keepP (marked l k i) P by unfold markP; rw [m3]; rfl] at HM2
        have ON := Lib.hid (on.trans0 hal)
        have ON4 := Lib.hid (on4.trans0 hal)
        have hkm : (((i : Int) + (k : Int)) % (l.length : Int)) = (m : Int) := by rw [hm, Int.natCast_emod, Int.natCast_add]
        have r1 : (0 : Int) ≤ (m : Int) := by omega
        have r2 : (m : Int) < (l.length : Int) := by omega
        have r3 : ¬ (l.length : Int) = 0 := by omega
        have r4 : ((l.length : Int) == 0) = false := by rw [beq_eq_false_iff_ne]; omega
        obtain ⟨a, b⟩ := x
        simp only at x0 x1 HM1 HM2 ON ON4 HBN
        subst e6
        generalize keepP (marked l k (i + 1)) P = Qa at *
        generalize hQb : keepP (marked l k i) P = Qb at *
        have HQB := Lib.hid hQb
        clear hc6 hx hxm s1 s2 m1 m2 m3 hm hal hp on on4 hpp htt hQb hbn q1 q2 q3 q4 hj0
        go_wp2_with fail
        refine HM1.out.mono ?_
        rintro e w5 ⟨rfl, p5, o5⟩
        have P5 := Lib.hid p5
        have O5 := Lib.hid (ON.out.trans o5 (by intro b hb; simp at hb; have := O4.out.size; omega))
        have O54 := Lib.hid (ON4.out.trans o5 (by intro b hb; exact .inl hb))
        have hb5 := HBN.out.only o5 (by have := HSB.out; simp; omega)
        have d0 : w5.cell? ⟨wr.heap.size, 0, none⟩ = some (.int .i64 a) := hb5.cell 0
        have d1 : w5.cell? ⟨wr.heap.size, 1, none⟩ = some (.int .i64 b) := hb5.cell 1
        clear p5 o5 hb5
        go_wp2_with fail
        refine (HM2.out w5 P5.out).mono ?_
        rintro e w6 ⟨rfl, p6, o6⟩
        have P6 := Lib.hid p6
        have O6 := Lib.hid (O5.out.trans o6 (by intro b hb; simp at hb; have := O4.out.size; omega))
        have O64 := Lib.hid (O54.out.trans o6 (by intro b hb; exact .inl hb))
        clear p6 o6
        go_wp2
        go_roundw
        · exact ⟨i, by omega, by simp, by rw [HQB.out]; exact P6.out, O6.out, O64.out⟩
        · simp [intOf]

end Go.Proofs.Ytpenmnngjfncgaa
