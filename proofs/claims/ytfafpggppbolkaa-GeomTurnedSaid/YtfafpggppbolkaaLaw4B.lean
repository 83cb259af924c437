/- The walks of the statements GeomLines, GeomTurned. -/
import Derived.Test.YtfafpggppbolkaaLaw4
namespace Go.Proofs.Ytfafpggppbolkaa
open Go.RowKit Go.Proofs.FuMem Go.Proofs.FuCode Go.Proofs.FuCrc Go.Proofs.FuGeom Go.Proofs.FuClass
set_option maxRecDepth 100000

set_option maxHeartbeats 400000 in
theorem walk_GeomLines (n : Int) (v : Nat) (w : World) (h1 : -9223372036854775808 ≤ n ∧ n ≤ 9223372036854775807) (hv : v < 18446744073709551616) :
    Calls Try.prog 10 #[.int .i64 n, .int .u64 v] w fun e w' => e = .returned (.bool true) ∧ Only [] w w' := by
  by_cases hin : 10 ≤ n ∧ n ≤ 258
  · obtain ⟨hn1, hn2⟩ := hin
    obtain ⟨m, rfl⟩ := Int.eq_ofNat_of_zero_le (show 0 ≤ n by omega)
    have m1 : 10 ≤ m := by omega
    have m2 : m ≤ 258 := by omega
    clear hn1 hn2
    go_enter Try.func10, Try.ntmps10
    go_wp2_with fail
    refine (geom_Super m _ m1 m2).mono ?_
    rintro e w1 ⟨g1, rfl, a1, _, o1⟩
    have A1 := Lib.hid (arr64 a1 (superL_length m))
    have O1 := Lib.hid o1
    clear a1 o1
    go_wp2_with fail
    refine (ref4_Super m _ m1 m2).mono ?_
    rintro e w2 ⟨A2, c2, rfl, a2, o2⟩
    have A2' := Lib.hid (bs_own a2)
    have O2 := Lib.hid o2
    clear a2 o2
    go_wp2_with fail
    refine (geom_Clock v _ hv).mono ?_
    rintro e w3 ⟨g3, rfl, a3, _, o3⟩
    have A3 := Lib.hid (arr64 a3 (clockL_length v))
    have O3 := Lib.hid o3
    clear a3 o3
    go_wp2_with fail
    refine (law0_SameBytes _ _ _ _ _ _ _ _ _ ((A1.out.only0 O2.out).only0 O3.out) (A2'.out.only0 O3.out)).mono ?_
    rintro e w' ⟨rfl, rfl⟩
    rw [beq_self_eq_true]
    go_wp2_with fail
    refine (law0_Num _ _).mono ?_
    rintro e w' ⟨rfl, rfl⟩
    go_wp2_with fail
    refine (ref4_Clock v _ hv).mono ?_
    rintro e w4 ⟨A4, c4, rfl, a4, o4⟩
    have A4' := Lib.hid (bs_own a4)
    have O4 := Lib.hid o4
    clear a4 o4
    go_wp2_with fail
    refine (law0_SameBytes _ _ _ _ _ _ _ _ _ (A3.out.only0 O4.out) A4'.out).mono ?_
    rintro e w' ⟨rfl, rfl⟩
    rw [beq_self_eq_true]
    have A1b := Lib.hid (((A1.out.only0 O2.out).only0 O3.out).only0 O4.out)
    have A3b := Lib.hid (A3.out.only0 O4.out)
    have OB := Lib.hid (((O1.out.trans0 O2.out).trans0 O3.out).trans0 O4.out)
    go_wp2_with fail
    refine (geom_IsSuper A1b.out (by decide)).mono ?_
    rintro e w5 ⟨rfl, o5⟩
    rw [isSuper_superL m m1 m2]
    have O5 := Lib.hid o5
    clear o5
    go_wp2_with fail
    refine (geom_IsClock (A3b.out.only0 O5.out) (by decide)).mono ?_
    rintro e w6 ⟨rfl, o6⟩
    rw [isClock_clockL v hv]
    have O6 := Lib.hid (O5.out.trans0 o6)
    clear o6
    go_wp2_with fail
    refine (geom_IsClock (A1b.out.only0 O6.out) (by decide)).mono ?_
    rintro e w7 ⟨rfl, o7⟩
    rw [isClock_superL m]
    have O7 := Lib.hid (O6.out.trans0 o7)
    clear o7
    go_wp2_with fail
    refine (law4_awake _).mono ?_
    rintro e w' ⟨rfl, on⟩
    have HN := Lib.hid on
    clear on
    go_wp2
    go_ret
    exact ⟨rfl, (OB.out.trans0 O7.out).trans0 HN.out⟩
  · have hout : n < 10 ∨ 258 < n := by omega
    have s1 := Lib.hid (geom_Super_no n w h1 hout)
    have s2 := Lib.hid (ref4_Super_no n w h1 hout)
    clear hin hout
    go_enter Try.func10, Try.ntmps10
    go_wp2_with fail
    refine (s1.out).mono ?_
    rintro e w' ⟨rfl, rfl⟩
    go_wp2_with fail
    refine (s2.out).mono ?_
    rintro e w' ⟨rfl, rfl⟩
    go_wp2_with fail
    refine (geom_Clock v _ hv).mono ?_
    rintro e w3 ⟨g3, rfl, a3, _, o3⟩
    have A3 := Lib.hid (arr64 a3 (clockL_length v))
    have O3 := Lib.hid o3
    clear a3 o3
    go_wp2_with fail
    refine (law0_SameBytes none none 0 0 0 0 [] [] _ (Bs.nil _ _) (Bs.nil _ _)).mono ?_
    rintro e w' ⟨rfl, rfl⟩
    rw [beq_self_eq_true]
    go_wp2_with fail
    refine (law0_Num _ _).mono ?_
    rintro e w' ⟨rfl, rfl⟩
    go_wp2_with fail
    refine (ref4_Clock v _ hv).mono ?_
    rintro e w4 ⟨A4, c4, rfl, a4, o4⟩
    have A4' := Lib.hid (bs_own a4)
    have O4 := Lib.hid o4
    clear a4 o4
    go_wp2_with fail
    refine (law0_SameBytes _ _ _ _ _ _ _ _ _ (A3.out.only0 O4.out) A4'.out).mono ?_
    rintro e w' ⟨rfl, rfl⟩
    rw [beq_self_eq_true]
    have A3b := Lib.hid (A3.out.only0 O4.out)
    have OB := Lib.hid (O3.out.trans0 O4.out)
    go_wp2_with fail
    refine (geom_IsSuper (Bs.nil _ none) (by decide)).mono ?_
    rintro e w5 ⟨rfl, o5⟩
    rw [isSuper_short (b := []) (by decide)]
    have O5 := Lib.hid o5
    clear o5
    go_wp2_with fail
    refine (geom_IsClock (A3b.out.only0 O5.out) (by decide)).mono ?_
    rintro e w6 ⟨rfl, o6⟩
    rw [isClock_clockL v hv]
    have O6 := Lib.hid (O5.out.trans0 o6)
    clear o6
    go_wp2_with fail
    refine (geom_IsClock (Bs.nil _ none) (by decide)).mono ?_
    rintro e w7 ⟨rfl, o7⟩
    rw [isClock_short (b := []) (by decide)]
    have O7 := Lib.hid (O6.out.trans0 o7)
    clear o7
    go_wp2_with fail
    refine (law4_awake _).mono ?_
    rintro e w' ⟨rfl, on⟩
    have HN := Lib.hid on
    clear on
    go_wp2
    go_ret
    exact ⟨rfl, (OB.out.trans0 O7.out).trans0 HN.out⟩
theorem turned_ne (l : List UInt8) (k j : Nat) (hk : k < l.length) (h0 : 0 < j) (hj : j < 256) : l[k]? ≠ some (l.getD k 0 ^^^ UInt8.ofNat j) := by
  rw [List.getElem?_eq_getElem hk]
  simp only [List.getD, List.getElem?_eq_getElem hk, Option.getD_some]
  exact fun e => xor8_ne l[k] j h0 hj (Option.some.inj e).symm
set_option maxHeartbeats 400000 in
theorem walk_GeomTurned (n : Int) (v : Nat) (at_ wi : Int) (w : World) (_h1 : -9223372036854775808 ≤ n ∧ n ≤ 9223372036854775807) (hv : v < 18446744073709551616) (_h2 : -9223372036854775808 ≤ at_ ∧ at_ ≤ 9223372036854775807) (_h3 : -9223372036854775808 ≤ wi ∧ wi ≤ 9223372036854775807) :
    Calls Try.prog 11 #[.int .i64 n, .int .u64 v, .int .i64 at_, .int .i64 wi] w fun e w' => e = .returned (.bool true) ∧ Only [] w w' := by
  have l1 : Calls Try.prog 18 #[.int .i64 at_, .int .i64 64] w fun e w' => e = .returned (.int .i64 (low at_ 64)) ∧ w = w' := law0_Low at_ 64 w (by omega) (by omega)
  have l2 : Calls Try.prog 18 #[.int .i64 wi, .int .i64 255] w fun e w' => e = .returned (.int .i64 (low wi 255)) ∧ w = w' := law0_Low wi 255 w (by omega) (by omega)
  have l3 : ∀ w, Calls Try.prog 18 #[.int .i64 n, .int .i64 249] w fun e w' => e = .returned (.int .i64 (low n 249)) ∧ w = w' := fun w => law0_Low n 249 w (by omega) (by omega)
  have b1 := low_lt at_ 64 (by omega)
  have b2 := low_lt wi 255 (by omega)
  have b3 := low_lt n 249 (by omega)
  generalize low at_ 64 = k at *
  generalize low wi 255 = j at *
  generalize low n 249 = m at *
  have hS : ∀ w, Calls Try.prog 44 #[.int .i64 (10 + (m : Int))] w fun e w' => ∃ g, e = .returned (.tuple #[.slice (some ⟨g, 0, none⟩) 64 64, .int .i64 0]) ∧ Arr w' g 106 (superL (10 + m)) ∧ w.heap.size ≤ g ∧ Only [] w w' := fun w => by
    have := geom_Super (10 + m) w (by omega) (by omega)
    rw [show ((10 + m : Nat) : Int) = 10 + (m : Int) by omega] at this
    exact this
  have L1 := Lib.hid l1
  have L2 := Lib.hid l2
  have L3 := Lib.hid l3
  have HS := Lib.hid hS
  clear l1 l2 l3 hS
  go_enter Try.func11, Try.ntmps11
  go_wp2_with fail
  refine (L1.out).mono ?_
  rintro e w' ⟨rfl, rfl⟩
  go_wp2_with fail
  refine (L2.out).mono ?_
  rintro e w' ⟨rfl, rfl⟩
  go_wp2_with fail
  refine (geom_Clock v _ hv).mono ?_
  rintro e w1 ⟨g1, rfl, a1, f1, o1⟩
  have O1 := Lib.hid o1
  have A1 := Lib.hid a1
  clear o1 a1
  go_wp2_with fail
  refine (L3.out _).mono ?_
  rintro e w' ⟨rfl, rfl⟩
  go_wp2_with fail
  refine (HS.out _).mono ?_
  rintro e w2 ⟨g2, rfl, a2, f2, o2⟩
  have hg1 := A1.out.lt
  have hne : g1 ≠ g2 := by omega
  have x1 := A1.out.only o2 (by simp)
  have c1 := x1.cell k (by rw [clockL_length]; exact b1)
  have z1 := x1.frozen k
  have c2 := a2.cell k (by rw [superL_length]; exact b1)
  have z2 := a2.frozen k
  have hx1 := xor8 ((clockL v).getD k 0) (1 + j) (by omega)
  have hx2 := xor8 ((superL (10 + m)).getD k 0) (1 + j) (by omega)
  rw [show ((1 + j : Nat) : Int) = 1 + (j : Int) by omega] at hx1 hx2
  have s1 := x1.set k hx1
  have p1 : Only [g1] w2 _ := (Only.refl [g1] w2).setCell (p := ⟨g1, k, none⟩) (.inl (by simp)) (.int .u8 (bits .xor .u8 (((clockL v).getD k 0).toNat : Int) (1 + (j : Int))))
  have y2 := a2.only p1 (by simpa using fun e => hne e.symm)
  have s2 := y2.set k hx2
  have p2 : Only [g2] _ _ := (Only.refl [g2] (w2.setCell ⟨g1, k, none⟩ (.int .u8 (bits .xor .u8 (((clockL v).getD k 0).toNat : Int) (1 + (j : Int)))))).setCell (p := ⟨g2, k, none⟩) (.inl (by simp)) (.int .u8 (bits .xor .u8 (((superL (10 + m)).getD k 0).toNat : Int) (1 + (j : Int))))
  have s1' := s1.only p2 (by simpa using hne)
  have hO : Only [] w _ := ((O1.out.trans0 o2).trans p1 (by intro b hb; rw [List.mem_singleton] at hb; subst hb; exact .inr f1)).trans p2 (by intro b hb; rw [List.mem_singleton] at hb; subst hb; exact .inr (by have := O1.out.size; omega))
  have t1 := isClock_turn v k b1 _ (turned_ne (clockL v) k (1 + j) (by rw [clockL_length]; exact b1) (by omega) (by omega))
  have t2 := isSuper_turn (10 + m) k b1 _ (turned_ne (superL (10 + m)) k (1 + j) (by rw [superL_length]; exact b1) (by omega) (by omega))
  have q1 := Lib.hid (arr64 s1' (by rw [List.length_set, clockL_length]))
  have q2 := Lib.hid (arr64 s2 (by rw [List.length_set, superL_length]))
  have T1 := Lib.hid t1
  have T2 := Lib.hid t2
  have HO := Lib.hid hO
  clear t1 t2 hO s1' p2 s2 y2 p1 s1 hx1 hx2 x1 a2 o2
  generalize ((clockL v).getD k 0).toNat = e1 at *
  generalize ((superL (10 + m)).getD k 0).toNat = e2 at *
  go_wp2_with fail
  refine (geom_IsClock q1.out (by decide)).mono ?_
  rintro e w5 ⟨rfl, o5⟩
  rw [T1.out]
  have O5 := Lib.hid o5
  clear o5
  go_wp2_with fail
  refine (geom_IsSuper (q2.out.only0 O5.out) (by decide)).mono ?_
  rintro e w6 ⟨rfl, o6⟩
  rw [T2.out]
  have O6 := Lib.hid (O5.out.trans0 o6)
  clear o6
  go_wp2_with fail
  refine (law4_awake _).mono ?_
  rintro e w' ⟨rfl, on⟩
  have HN := Lib.hid on
  clear on
  go_wp2
  go_ret
  exact ⟨rfl, (HO.out.trans0 O6.out).trans0 HN.out⟩
end Go.Proofs.Ytfafpggppbolkaa
