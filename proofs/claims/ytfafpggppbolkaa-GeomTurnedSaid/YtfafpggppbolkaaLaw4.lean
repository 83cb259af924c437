/- The walks of the statements on geom (without devices). -/
import Derived.Test.YtfafpggppbolkaaGeomRefB
import Derived.Test.YtfafpggppbolkaaLaw2
import Derived.Test.YtfafpggppbolkaaXor8
namespace Go.Proofs.Ytfafpggppbolkaa
open Go.RowKit Go.Proofs.FuMem Go.Proofs.FuCode Go.Proofs.FuCrc Go.Proofs.FuGeom Go.Proofs.FuClass
set_option maxRecDepth 100000

theorem arr64 {w : World} {g : Nat} {t : TypeId} {l : List UInt8} (h : Arr w g t l) (hl : l.length = 64) : Bs w (some ⟨g, 0, none⟩) 64 l := by
  have := h.bs
  rwa [hl] at this
theorem geom_IsClock {A : Option Addr} {n c : Nat} {l : List UInt8} {w : World} (h : Bs w A n l) (hn : n ≤ maxLen) :
    Calls Try.prog 32 #[.slice A n c] w fun e w' => e = .returned (.tuple #[.int .u64 (isClock l).1, .bool (isClock l).2]) ∧ Only [] w w' := by
  by_cases h64 : n = 64
  · subst h64
    obtain ⟨b, off, rfl, _⟩ := h.at_ (by omega)
    exact geom_IsClock_yes b off c l w h
  · rw [isClock_short (by rw [h.len]; exact h64)]
    exact geom_IsClock_no A n c w hn h64
theorem geom_IsSuper {A : Option Addr} {n c : Nat} {l : List UInt8} {w : World} (h : Bs w A n l) (hn : n ≤ maxLen) :
    Calls Try.prog 30 #[.slice A n c] w fun e w' => e = .returned (.tuple #[.int .i64 (isSuper l).1, .bool (isSuper l).2]) ∧ Only [] w w' := by
  by_cases h64 : n = 64
  · subst h64
    obtain ⟨b, off, rfl, _⟩ := h.at_ (by omega)
    exact geom_IsSuper_yes b off c l w h
  · rw [isSuper_short (by rw [h.len]; exact h64)]
    exact geom_IsSuper_no A n c w hn h64
theorem ref4_IsClock {A : Option Addr} {n c : Nat} {l : List UInt8} {w : World} (h : Bs w A n l) (hc : n ≤ c) :
    Calls Try.prog 33 #[.slice A n c] w fun e w' => e = .returned (.tuple #[.int .u64 (isClock l).1, .bool (isClock l).2]) ∧ Only [] w w' := by
  by_cases h64 : n = 64
  · subst h64
    obtain ⟨b, off, rfl, _⟩ := h.at_ (by omega)
    exact ref4_IsClock_yes b off c l w h hc
  · rw [isClock_short (by rw [h.len]; exact h64)]
    refine (ref4_IsClock_no A n c w h64).mono ?_
    rintro e w' ⟨rfl, rfl⟩
    exact ⟨rfl, Only.refl _ _⟩
theorem law4_awake (w : World) : Calls Try.prog 28 #[] w fun e w' => e = .returned (.bool true) ∧ Only [] w w' := by
  have k1 := geom_Clock 7
  have k2 : ∀ (g : Nat) (w : World), Arr w g 106 (clockL 7) → Calls Try.prog 32 #[.slice (some ⟨g, 0, none⟩) 64 64] w fun e w' => e = .returned (.tuple #[.int .u64 7, .bool true]) ∧ Only [] w w' := fun g w h => by
    have := geom_IsClock_yes g 0 64 (clockL 7) w (arr64 h (clockL_length 7))
    rw [isClock_clockL 7 (by omega)] at this
    exact this
  have k3 : ∀ (g : Nat) (w : World), Arr w g 106 (clockL 7) → Calls Try.prog 30 #[.slice (some ⟨g, 0, none⟩) 64 64] w fun e w' => e = .returned (.tuple #[.int .i64 0, .bool false]) ∧ Only [] w w' := fun g w h => by
    have := geom_IsSuper_yes g 0 64 (clockL 7) w (arr64 h (clockL_length 7))
    rw [isSuper_clockL 7] at this
    exact this
  have k4 := fun w => geom_Slabs 10 w
  rw [show slabsOf 10 = 1 by decide] at k4
  have k5 := fun w => geom_Slab 1 w
  rw [show slab 1 = 10 by decide] at k5
  have K1 : Hid (∀ w, Calls Try.prog 46 #[.int .u64 7] w fun e w' => ∃ g, e = .returned (.slice (some ⟨g, 0, none⟩) 64 64) ∧ Arr w' g 106 (clockL 7) ∧ w.heap.size ≤ g ∧ Only [] w w') := Lib.hid (fun w => k1 w (by omega))
  have K2 := Lib.hid k2
  have K3 := Lib.hid k3
  have K4 := Lib.hid k4
  have K5 := Lib.hid k5
  clear k1 k2 k3 k4 k5
  go_enter Try.func28, Try.ntmps28
  go_wp2_with fail
  refine (K1.out _).mono ?_
  rintro e w1 ⟨g1, rfl, a1, _, o1⟩
  have A1 := Lib.hid a1
  have O1 := Lib.hid o1
  clear a1 o1
  go_wp2_with fail
  refine (K2.out _ _ A1.out).mono ?_
  rintro e w2 ⟨rfl, o2⟩
  have O2 := Lib.hid (O1.out.trans0 o2)
  clear o2
  go_wp2_with fail
  refine (K1.out _).mono ?_
  rintro e w3 ⟨g3, rfl, a3, _, o3⟩
  have A3 := Lib.hid a3
  have O3 := Lib.hid (O2.out.trans0 o3)
  clear a3 o3
  go_wp2_with fail
  refine (K3.out _ _ A3.out).mono ?_
  rintro e w4 ⟨rfl, o4⟩
  have O4 := Lib.hid (O3.out.trans0 o4)
  clear o4
  go_wp2_with fail
  refine (K4.out _).mono ?_
  rintro e w' ⟨rfl, rfl⟩
  go_wp2_with fail
  refine (K5.out _).mono ?_
  rintro e w' ⟨rfl, rfl⟩
  go_wp2
  go_ret
  exact ⟨rfl, O4.out⟩
theorem walk_GeomSlabs (n k line : Int) (w : World) (_h1 : -9223372036854775808 ≤ n ∧ n ≤ 9223372036854775807) (_h2 : -9223372036854775808 ≤ k ∧ k ≤ 9223372036854775807) (_h3 : -9223372036854775808 ≤ line ∧ line ≤ 9223372036854775807) :
    Calls Try.prog 8 #[.int .i64 n, .int .i64 k, .int .i64 line] w fun e w' => e = .returned (.bool true) ∧ Only [] w w' := by
  have k1 := Lib.hid (geom_Slabs n w)
  have k2 := Lib.hid (ref4_Slabs n w)
  have k3 := Lib.hid (geom_Slab k w)
  have k4 := Lib.hid (ref4_Slab k w)
  have k5 := Lib.hid (geom_SlabOf line w)
  have k6 := Lib.hid (ref4_SlabOf line w)
  generalize slabsOf n = a at *
  generalize slab k = b at *
  generalize slabOf line = d at *
  go_enter Try.func8, Try.ntmps8
  go_wp2_with fail
  refine (k1.out).mono ?_
  rintro e w' ⟨rfl, rfl⟩
  go_wp2_with fail
  refine (k2.out).mono ?_
  rintro e w' ⟨rfl, rfl⟩
  go_wp2_with fail
  refine (k3.out).mono ?_
  rintro e w' ⟨rfl, rfl⟩
  go_wp2_with fail
  refine (k4.out).mono ?_
  rintro e w' ⟨rfl, rfl⟩
  go_wp2_with fail
  refine (k5.out).mono ?_
  rintro e w' ⟨rfl, rfl⟩
  go_wp2_with fail
  refine (k6.out).mono ?_
  rintro e w' ⟨rfl, rfl⟩
  go_wp2_with fail
  refine (law4_awake _).mono ?_
  rintro e w' ⟨rfl, on⟩
  have HN := Lib.hid on
  clear on
  go_wp2
  go_ret
  exact ⟨rfl, HN.out⟩
theorem walk_GeomApart (line : Int) (w : World) (_h3 : -9223372036854775808 ≤ line ∧ line ≤ 9223372036854775807) :
    Calls Try.prog 9 #[.int .i64 line] w fun e w' => e = .returned (.bool true) ∧ Only [] w w' := by
  have k5 := geom_SlabOf line w
  by_cases h1 : line < 2
  · rw [show slabOf line = -1 from if_pos (.inl h1)] at k5
    have K5 := Lib.hid k5
    clear k5
    go_enter Try.func9, Try.ntmps9
    go_wp2_with fail
    refine (K5.out).mono ?_
    rintro e w' ⟨rfl, rfl⟩
    go_wp2_with fail
    refine (law4_awake _).mono ?_
    rintro e w' ⟨rfl, on⟩
    have HN := Lib.hid on
    clear on
    go_wp2
    go_ret
    exact ⟨rfl, HN.out⟩
  by_cases h2 : 258 ≤ line
  · rw [show slabOf line = -1 from if_pos (.inr h2)] at k5
    have K5 := Lib.hid k5
    clear k5
    go_enter Try.func9, Try.ntmps9
    go_wp2_with fail
    refine (K5.out).mono ?_
    rintro e w' ⟨rfl, rfl⟩
    go_wp2_with fail
    refine (law4_awake _).mono ?_
    rintro e w' ⟨rfl, on⟩
    have HN := Lib.hid on
    clear on
    go_wp2
    go_ret
    exact ⟨rfl, HN.out⟩
  have hso : slabOf line = (line - 2) / 8 := if_neg (by omega)
  rw [hso] at k5
  obtain ⟨k, hk⟩ : ∃ k, k = (line - 2) / 8 := ⟨_, rfl⟩
  rw [← hk] at k5
  have hk1 : 0 ≤ k := by omega
  have hk2 : k ≤ 31 := by omega
  have hl1 : 2 + 8 * k ≤ line := by omega
  have hl2 : line - (2 + 8 * k) < 8 := by omega
  have k6 := geom_Slab k w
  rw [show slab k = 2 + 8 * k from if_neg (by omega)] at k6
  have k7 := geom_SlabOf (2 + 8 * k) w
  rw [show slabOf (2 + 8 * k) = k by unfold slabOf; rw [if_neg (by omega)]; omega] at k7
  have K5 := Lib.hid k5
  have K6 := Lib.hid k6
  have K7 := Lib.hid k7
  clear k5 k6 k7 hso hk
  by_cases h0 : k = 0
  · subst h0
    go_enter Try.func9, Try.ntmps9
    go_wp2_with fail
    refine (K5.out).mono ?_
    rintro e w' ⟨rfl, rfl⟩
    go_wp2_with fail
    refine (K6.out).mono ?_
    rintro e w' ⟨rfl, rfl⟩
    go_wp2_with fail
    refine (K7.out).mono ?_
    rintro e w' ⟨rfl, rfl⟩
    go_wp2_with fail
    refine (law4_awake _).mono ?_
    rintro e w' ⟨rfl, on⟩
    have HN := Lib.hid on
    clear on
    go_wp2
    go_ret
    exact ⟨rfl, HN.out⟩
  · have hk3 : 1 ≤ k := by omega
    have d1 : (2 + 8 * k == 2) = false := by simp; omega
    have k8 := geom_SlabOf (2 + 8 * k - 1) w
    rw [show slabOf (2 + 8 * k - 1) = k - 1 by unfold slabOf; rw [if_neg (by omega)]; omega] at k8
    have K8 := Lib.hid k8
    clear k8 h0
    go_enter Try.func9, Try.ntmps9
    go_wp2_with fail
    refine (K5.out).mono ?_
    rintro e w' ⟨rfl, rfl⟩
    go_wp2_with fail
    refine (K6.out).mono ?_
    rintro e w' ⟨rfl, rfl⟩
    go_wp2_with fail
    refine (K7.out).mono ?_
    rintro e w' ⟨rfl, rfl⟩
    go_wp2_with fail
    refine (K8.out).mono ?_
    rintro e w' ⟨rfl, rfl⟩
    go_wp2_with fail
    refine (law4_awake _).mono ?_
    rintro e w' ⟨rfl, on⟩
    have HN := Lib.hid on
    clear on
    go_wp2
    go_ret
    exact ⟨rfl, HN.out⟩
theorem walk_GeomReads (A : Option Addr) (n c : Nat) (l : List UInt8) (w : World) (h : Bs w A n l) (hn : n ≤ maxLen) (hc : n ≤ c) :
    Calls Try.prog 5 #[.slice A n c] w fun e w' => e = .returned (.bool true) ∧ Only [] w w' := by
  have hm := hn
  unfold maxLen at hm
  have HB := Lib.hid h
  clear h
  by_cases hbig : 1024 < n
  · go_enter Try.func5, Try.ntmps5
    go_wp2_with fail
    refine (law4_awake _).mono ?_
    rintro e w' ⟨rfl, on⟩
    have HN := Lib.hid on
    clear on
    go_wp2
    go_ret
    exact ⟨rfl, HN.out⟩
  have hb1 : decide (1024 < (n : Int)) = false := by simp; omega
  go_enter Try.func5, Try.ntmps5
  go_wp2_with fail
  refine (law0_LendBytes A n c l _ HB.out (by omega)).mono ?_
  rintro e w1 ⟨rfl, hl, o1⟩
  have hb1 : Bs w1 (some ⟨w.heap.size, 0, none⟩) n l := Sl.of_blk hl 0 (by simp [← HB.out.len]) (by simp [← HB.out.len])
  have H1 := Lib.hid hl
  have O1 := Lib.hid o1
  have B1 := Lib.hid hb1
  clear hl o1 hb1
  go_wp2_with fail
  refine (geom_IsSuper B1.out hn).mono ?_
  rintro e w2 ⟨rfl, o2⟩
  have O2 := Lib.hid o2
  clear o2
  go_wp2_with fail
  refine (ref4_IsSuper A n c l _ ((HB.out.only0 O1.out).only0 O2.out)).mono ?_
  rintro e w3 ⟨rfl, o3⟩
  have O3 := Lib.hid (O2.out.trans0 o3)
  clear o3
  go_wp2_with fail
  refine (geom_IsClock (B1.out.only0 O3.out) hn).mono ?_
  rintro e w4 ⟨rfl, o4⟩
  have O4 := Lib.hid (O3.out.trans0 o4)
  clear o4
  go_wp2_with fail
  refine (ref4_IsClock ((HB.out.only0 O1.out).only0 O4.out) hc).mono ?_
  rintro e w5 ⟨rfl, o5⟩
  have O5 := Lib.hid (O4.out.trans0 o5)
  clear o5
  go_wp2_with fail
  refine (law0_KeptBytes A n c l _ _ (H1.out.only O5.out (by simp)) ((HB.out.only0 O1.out).only0 O5.out) (by omega)).mono ?_
  rintro e w' ⟨rfl, rfl⟩
  go_wp2_with fail
  refine (law4_awake _).mono ?_
  rintro e w' ⟨rfl, on⟩
  have HN := Lib.hid on
  clear on
  go_wp2
  go_ret
  exact ⟨rfl, (O1.out.trans0 O5.out).trans0 HN.out⟩
end Go.Proofs.Ytfafpggppbolkaa
