/- The walks of the statements on code. -/
import Derived.Test.YtjagedcaemckfaaCodeRef
namespace Go.Proofs.Ytjagedcaemckfaa
open Go.RowKit Go.Proofs.FuMem Go.Proofs.FuCode

theorem law0_Num (x : Int) (w : World) : Calls Try.prog 36 #[.int .i64 x] w fun e w' => e = .returned (.int .i64 x) ∧ w = w' := by
  go_enter Try.func36, Try.ntmps36
  go_wp2
  go_ret
  exact ⟨rfl, rfl⟩
theorem Lent.only {w w' : World} {S : List Nat} {g : Nat} {l : List UInt8} (h : Lent w g l) (ho : Only S w w') (hs : g ∉ S) : Lent w' g l := (ho.block g h.lt hs).trans h
theorem put_digits : put [0, 0, 0] 1 2 258 = ([0, 2, 1], 0) := by decide +kernel
theorem get_digits : cget [0, 2, 1] 1 2 = (258, 0) := by decide +kernel
theorem three (w : World) (x y z : Int) (a b c : UInt8) (ha : x = a.toNat) (hb : y = b.toNat) (hc : z = c.toNat) : Bs (w.alloc (.cells #[.int .u8 x, .int .u8 y, .int .u8 z] 5)) (some ⟨w.heap.size, 0, none⟩) 3 [a, b, c] := by
  subst ha hb hc
  exact Sl.of_blk (Blk.new w 5 #[.int .u8 (a.toNat : Int), .int .u8 (b.toNat : Int), .int .u8 (c.toNat : Int)]) 0 rfl (by simp)
theorem three' (w : World) (g : Nat) (x y z : Int) (a b c : UInt8) (hg : g = w.heap.size) (ha : x = a.toNat) (hb : y = b.toNat) (hc : z = c.toNat) : Bs (w.alloc (.cells #[.int .u8 x, .int .u8 y, .int .u8 z] 5)) (some ⟨g, 0, none⟩) 3 [a, b, c] := by
  subst hg
  exact three w x y z a b c ha hb hc
theorem awake_put (w : World) : Calls Try.prog 33 #[.slice (some ⟨w.heap.size, 0, none⟩) 3 3, .int .i64 1, .int .i64 2, .int .u64 258] (w.alloc (.cells #[.int .u8 0, .int .u8 0, .int .u8 0] 5)) fun e w' => ∃ A c, e = .returned (.tuple #[.slice A 3 c, .int .i64 0]) ∧ Bs w' A 3 [0, 2, 1] ∧ Only [] w w' := by
  have hp := code_Put _ 3 3 _ 1 2 258 _ (three w 0 0 0 0 0 0 rfl rfl rfl) (by omega) (by omega) (by omega) (by omega)
  rw [put_digits] at hp
  refine hp.mono ?_
  rintro e w1 ⟨_, rfl, A1, c1, rfl, ho, on⟩
  exact ⟨A1, c1, rfl, bs_own ho, ((Only.refl _ _).alloc _).trans0 on⟩
theorem awake_get (w : World) : Calls Try.prog 38 #[.slice (some ⟨w.heap.size, 0, none⟩) 3 3, .int .i64 1, .int .i64 2] (w.alloc (.cells #[.int .u8 0, .int .u8 2, .int .u8 1] 5)) fun e w' => e = .returned (.tuple #[.int .u64 258, .int .i64 0]) ∧ (w.alloc (.cells #[.int .u8 0, .int .u8 2, .int .u8 1] 5)) = w' := by
  have hg := code_Get _ 3 3 _ 1 2 _ (three w 0 2 1 0 2 1 rfl rfl rfl) (by omega) (by omega) (by omega)
  rw [get_digits] at hg
  exact hg
theorem law2_awake (w : World) : Calls Try.prog 32 #[] w fun e w' => e = .returned (.bool true) ∧ Only [] w w' := by
  go_enter Try.func32, Try.ntmps32
  go_wp2_with fail
  refine (awake_put _).mono ?_
  rintro e w1 ⟨A1, c1, rfl, hs, on⟩
  have HS := Lib.hid hs
  have HO := Lib.hid on
  clear hs on
  go_wp2_with fail
  refine (awake_get _).mono ?_
  rintro e w' ⟨rfl, rfl⟩
  go_wp2_with fail
  refine (law0_SameBytes _ _ _ _ _ _ [0, 2, 1] [0, 2, 1] _ (HS.out.only0 (((Only.refl _ _).alloc _).alloc _)) (three' _ _ 0 2 1 0 2 1 (by simp) rfl rfl rfl)).mono ?_
  rintro e w' ⟨rfl, rfl⟩
  rw [beq_self_eq_true]
  go_wp2
  go_ret
  exact ⟨rfl, (HO.out.alloc _).alloc _⟩
theorem walk_CodePuts (A : Option Addr) (n c : Nat) (l : List UInt8) (at_ k : Int) (v : Nat) (w : World) (h : Bs w A n l) (hn : n ≤ maxLen) (h1 : -9223372036854775808 ≤ at_ ∧ at_ ≤ 9223372036854775807) (h2 : -9223372036854775808 ≤ k ∧ k ≤ 9223372036854775807) (hv : v < 18446744073709551616) :
    Calls Try.prog 9 #[.slice A n c, .int .i64 at_, .int .i64 k, .int .u64 v] w fun e w' => e = .returned (.bool true) ∧ Only [] w w' := by
  unfold maxLen at hn
  have hl := h.len
  have HB := Lib.hid h
  have HL := Lib.hid hl
  clear h hl
  by_cases hbig : 1024 < n
  · go_enter Try.func9, Try.ntmps9
    go_wp2_with fail
    refine (law2_awake _).mono ?_
    rintro e w' ⟨rfl, on⟩
    have HN := Lib.hid on
    clear on
    go_wp2
    go_ret
    exact ⟨rfl, HN.out⟩
  have hb1 : decide (1024 < (n : Int)) = false := by simp; omega
  have hr := put_len l at_ k v
  rw [HL.out] at hr
  go_enter Try.func9, Try.ntmps9
  go_wp2_with fail
  refine (law0_LendBytes A n c l _ HB.out (by omega)).mono ?_
  rintro e w1 ⟨rfl, hl, o1⟩
  have hb1 : Bs w1 (some ⟨w.heap.size, 0, none⟩) n l := Sl.of_blk hl 0 (by simp [← HB.out.len]) (by simp [← HB.out.len])
  have H1 := Lib.hid hl
  have O1 := Lib.hid o1
  have B1 := Lib.hid hb1
  clear hl o1 hb1
  go_wp2_with fail
  refine (code_Put _ n _ l at_ k v _ B1.out (by omega) h1 h2 hv).mono ?_
  rintro e w2 ⟨_, rfl, A2, c2, rfl, m2, o2⟩
  have M2 := Lib.hid m2
  have O2 := Lib.hid o2
  clear m2 o2
  go_wp2_with fail
  refine (ref2_Put A n c l at_ k v _ ((HB.out.only0 O1.out).only0 O2.out) (by omega) h1 h2 hv).mono ?_
  rintro e w3 ⟨_, rfl, A3, c3, rfl, m3, o3⟩
  have M3 := Lib.hid m3
  have O3 := Lib.hid o3
  clear m3 o3
  go_wp2_with fail
  refine (law0_SameBytes _ _ _ _ _ _ _ _ _ ((bs_own M2.out).only0 O3.out) (bs_own M3.out)).mono ?_
  rintro e w' ⟨rfl, rfl⟩
  rw [beq_self_eq_true]
  go_wp2_with fail
  refine (law0_Num _ _).mono ?_
  rintro e w' ⟨rfl, rfl⟩
  go_wp2_with fail
  refine (law0_OverBytes _ _ _ _ _ (own_only M2.out O3.out (by simp)) (O2.out.trans0 O3.out) (by omega)).mono ?_
  rintro e w4 ⟨rfl, o4⟩
  have O4 := Lib.hid o4
  clear o4
  go_wp2_with fail
  refine (law0_KeptBytes A n c l _ _ (H1.out.only O4.out (by simp)) ((HB.out.only0 O1.out).only0 O4.out) (by omega)).mono ?_
  rintro e w' ⟨rfl, rfl⟩
  go_wp2_with fail
  refine (law2_awake _).mono ?_
  rintro e w' ⟨rfl, on⟩
  have HN := Lib.hid on
  clear on
  go_wp2
  go_ret
  exact ⟨rfl, (O1.out.trans0 O4.out).trans0 HN.out⟩
theorem walk_CodeGets (A : Option Addr) (n c : Nat) (l : List UInt8) (at_ k : Int) (w : World) (h : Bs w A n l) (hn : n ≤ maxLen) (hc : n ≤ c) (h1 : -9223372036854775808 ≤ at_ ∧ at_ ≤ 9223372036854775807) (h2 : -9223372036854775808 ≤ k ∧ k ≤ 9223372036854775807) :
    Calls Try.prog 10 #[.slice A n c, .int .i64 at_, .int .i64 k] w fun e w' => e = .returned (.bool true) ∧ Only [] w w' := by
  unfold maxLen at hn
  have hl := h.len
  have HB := Lib.hid h
  have HL := Lib.hid hl
  clear h hl
  by_cases hbig : 1024 < n
  · go_enter Try.func10, Try.ntmps10
    go_wp2_with fail
    refine (law2_awake _).mono ?_
    rintro e w' ⟨rfl, on⟩
    have HN := Lib.hid on
    clear on
    go_wp2
    go_ret
    exact ⟨rfl, HN.out⟩
  have hb1 : decide (1024 < (n : Int)) = false := by simp; omega
  go_enter Try.func10, Try.ntmps10
  go_wp2_with fail
  refine (law0_LendBytes A n c l _ HB.out (by omega)).mono ?_
  rintro e w1 ⟨rfl, hl, o1⟩
  have hb1 : Bs w1 (some ⟨w.heap.size, 0, none⟩) n l := Sl.of_blk hl 0 (by simp [← HB.out.len]) (by simp [← HB.out.len])
  have H1 := Lib.hid hl
  have O1 := Lib.hid o1
  have B1 := Lib.hid hb1
  clear hl o1 hb1
  go_wp2_with fail
  refine (code_Get _ n _ l at_ k _ B1.out (by omega) h1 h2).mono ?_
  rintro e w' ⟨rfl, rfl⟩
  go_wp2_with fail
  refine (ref2_Get A n c l at_ k _ (HB.out.only0 O1.out) (by omega) hc h1 h2).mono ?_
  rintro e w' ⟨rfl, rfl⟩
  go_wp2_with fail
  refine (law0_Num _ _).mono ?_
  rintro e w' ⟨rfl, rfl⟩
  go_wp2_with fail
  refine (law0_KeptBytes A n c l _ _ H1.out (HB.out.only0 O1.out) (by omega)).mono ?_
  rintro e w' ⟨rfl, rfl⟩
  go_wp2_with fail
  refine (law2_awake _).mono ?_
  rintro e w' ⟨rfl, on⟩
  have HN := Lib.hid on
  clear on
  go_wp2
  go_ret
  exact ⟨rfl, O1.out.trans0 HN.out⟩
theorem walk_CodeZeros (A : Option Addr) (n c : Nat) (l : List UInt8) (at_ k : Int) (w : World) (h : Bs w A n l) (hn : n ≤ maxLen) (hc : n ≤ c) (h1 : -9223372036854775808 ≤ at_ ∧ at_ ≤ 9223372036854775807) (h2 : -9223372036854775808 ≤ k ∧ k ≤ 9223372036854775807) :
    Calls Try.prog 13 #[.slice A n c, .int .i64 at_, .int .i64 k] w fun e w' => e = .returned (.bool true) ∧ Only [] w w' := by
  unfold maxLen at hn
  have HB := Lib.hid h
  clear h
  by_cases hbig : 1024 < n
  · go_enter Try.func13, Try.ntmps13
    go_wp2_with fail
    refine (law2_awake _).mono ?_
    rintro e w' ⟨rfl, on⟩
    have HN := Lib.hid on
    clear on
    go_wp2
    go_ret
    exact ⟨rfl, HN.out⟩
  have hb1 : decide (1024 < (n : Int)) = false := by simp; omega
  go_enter Try.func13, Try.ntmps13
  go_wp2_with fail
  refine (code_Zeros A n c l at_ k _ HB.out (by omega) hc h1 h2).mono ?_
  rintro e w' ⟨rfl, rfl⟩
  go_wp2_with fail
  refine (ref2_Zeros A n c l at_ k _ HB.out (by omega) h1 h2).mono ?_
  rintro e w' ⟨rfl, rfl⟩
  go_wp2_with fail
  refine (law2_awake _).mono ?_
  rintro e w' ⟨rfl, on⟩
  have HN := Lib.hid on
  clear on
  go_wp2
  go_ret
  exact ⟨rfl, HN.out⟩
end Go.Proofs.Ytjagedcaemckfaa
