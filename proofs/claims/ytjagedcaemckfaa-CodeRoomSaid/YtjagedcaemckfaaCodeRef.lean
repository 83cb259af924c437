/- The contracts of the reference of chapter 2, and of OverBytes. -/
import Derived.Test.YtjagedcaemckfaaCodeGet
import Derived.Test.YtjagedcaemckfaaXor8
namespace Go.Proofs.Ytjagedcaemckfaa
open Go.RowKit Go.Proofs.FuMem Go.Proofs.FuCode

theorem lay_next (v j y : Nat) (hy : y = v / 256 ^ j) : (lay j v).map B ++ [Value.int .u8 ((y : Int) % 256)] = (lay (j + 1) v).map B := by
  rw [lay_succ, List.map_append, ← hy]
  congr 1
  simp only [List.map_cons, List.map_nil, B, ofNat_mod]
  rw [Int.natCast_emod]
  rfl
theorem one_ints (k : IntKind) (z : Int) : ∀ u ∈ [Value.int k z], u.oneCell' = true := by
  intro u hu
  rw [List.mem_singleton] at hu
  subst hu
  rfl
theorem one_cell (w : World) (t : TypeId) (v : Value) : Sl (w.alloc (.cells #[v] t)) (some ⟨w.heap.size, 0, none⟩) 1 [v] := Sl.of_blk (Blk.new w t #[v]) 0 rfl (by simp)
theorem ref2_Lay (k v : Nat) (w : World) (hk : k ≤ 8) (hv : v < 18446744073709551616) :
    Calls Try.prog 61 #[.int .i64 k, .int .u64 v] w fun e w' => ∃ x, e = .returned x ∧ MadeB w (lay k v) x w' := by
  obtain ⟨i0, hi, hz0, hz1, hz2⟩ := info_parts Try.byteInfo
  have HI := Lib.hid hi
  have HZ0 := Lib.hid hz0
  have HZ1 := Lib.hid hz1
  have HZ2 := Lib.hid hz2
  clear hi hz0 hz1 hz2
  go_enter Try.func61, Try.ntmps61
  go_wp2
  go_loopw [1, 5, 6] (fun x b i wr => ∃ j y : Nat, j ≤ k ∧ i = .int .i64 j ∧ x = .int .u64 (y : Int) ∧ y = v / 256 ^ j ∧ wr.ownsRow w.heap.size 5 1 b j ((lay j v).map B) ∧ Only [] w wr) (fun _ _ i _ => k - (intOf i).toNat)
  case atStart => exact ⟨0, v, Nat.zero_le _, rfl, rfl, by simp, own_nil _ _ _ _, Only.refl _ _⟩
  case round =>
    obtain ⟨j, y, hj, rfl, rfl, hy, ho, on⟩ := hrel
    by_cases hlt : j < k
    · have hyj : y < 18446744073709551616 := by rw [hy]; exact Nat.lt_of_le_of_lt (Nat.div_le_self _ _) hv
      have hq : y / 256 = v / 256 ^ (j + 1) := by rw [Nat.pow_succ, ← Nat.div_div_eq_div_mul, hy]
      have hln := lay_next v j y hy
      obtain ⟨A', c', w', hr, ho2, hs2, on2⟩ := append_own (P := Try.prog) (wr.alloc (.cells #[.int .u8 ((y : Int) % 256)] 5)) (on.alloc _) 22 22 5 i0 _ 1 Try.underlying22 HI.out HZ0.out HZ1.out HZ2.out rfl _ j ((lay j v).map B) (ho.alloc _) (some ⟨wr.heap.size, 0, none⟩) 1 1 [.int .u8 ((y : Int) % 256)] (one_cell _ _ _) (one_ints _ _) (by unfold maxLen; omega) (by omega)
      rw [hln] at ho2
      have H1 := Lib.hid ho2
      have H2 := Lib.hid on2
      have HQ := Lib.hid hq
      clear ho on hq ho2 on2 hs2 hln hy
      go_wp2_with (at_builtin; refine wpList_append_run _ rfl (.tmp 12) (.tmp 15) 22 rfl _ _ rfl rfl _ _ hr ?_)
      go_roundw
      case rel => exact ⟨j + 1, y / 256, by omega, by go_num, by go_num, HQ.out, H1.out, H2.out⟩
      case measure => simp [intOf]; omega
    · obtain rfl : j = k := by omega
      have hl := ho.1
      have hA := own_slice ho
      obtain ⟨A', c', rfl, _, _⟩ := hA
      have H1 := Lib.hid ho
      have H2 := Lib.hid on
      clear ho on hl hy
      go_wp2
      go_ret
      exact ⟨.slice A' j c', rfl, madeB_own (lay_length j v) H1.out H2.out⟩
theorem ref2_Number (A : Option Addr) (n c : Nat) (l : List UInt8) (w : World) (h : Bs w A n l) (hn : n ≤ 8) :
    Calls Try.prog 62 #[.slice A n c] w fun e w' => e = .returned (.int .u64 (num l)) ∧ w = w' := by
  have hl := h.len
  by_cases h0 : n = 0
  · subst h0
    obtain rfl : l = [] := List.eq_nil_of_length_eq_zero hl
    clear h hl
    go_enter Try.func62, Try.ntmps62
    go_wp2
    go_loop [3, 4] (fun v i => v = .int .u64 0 ∧ i = .int .i64 (-1)) (fun _ _ => 0)
    case atStart => exact ⟨rfl, rfl⟩
    case round =>
      obtain ⟨rfl, rfl⟩ := hrel
      go_wp2
      go_ret
      exact ⟨rfl, rfl⟩
  · obtain ⟨b, off, rfl, hcell⟩ := h.at_ (by omega)
    have HX := Lib.hid hcell
    have HL := Lib.hid hl
    have hn0 : 0 < n := by omega
    clear h hcell hl h0
    go_enter Try.func62, Try.ntmps62
    go_wp2
    go_loop [3, 4] (fun v i => ∃ j y : Nat, j ≤ n ∧ i = .int .i64 ((j : Int) - 1) ∧ v = .int .u64 y ∧ y = num (l.drop j)) (fun _ i => (intOf i + 1).toNat)
    case atStart => exact ⟨n, 0, Nat.le_refl _, rfl, rfl, by rw [List.drop_eq_nil_of_le (by rw [HL.out]; omega)]; rfl⟩
    case round =>
      obtain ⟨j, y, hj, rfl, rfl, hy⟩ := hrel
      by_cases hlt : 0 < j
      · obtain ⟨i, rfl⟩ : ∃ i, j = i + 1 := ⟨j - 1, by omega⟩
        have hil : i < l.length := by rw [HL.out]; omega
        have hc1 := HX.out i hil
        have hs := num_cons_drop l i hil
        have hlen : (l.drop (i + 1)).length = n - (i + 1) := by rw [List.length_drop, HL.out]
        have hb := num_lt (l.drop (i + 1))
        have hb2 := num_lt (l.drop i)
        have hlen2 : (l.drop i).length = n - i := by rw [List.length_drop, HL.out]
        rw [hlen2] at hb2
        have hp := pow_le8 (n - i) (by omega)
        have hx := l[i].toNat_lt
        have hyb : y * 256 + l[i].toNat < 18446744073709551616 := by rw [hy, Nat.mul_comm, Nat.add_comm, ← hs]; omega
        have hN : y * 256 + l[i].toNat = num (l.drop i) := by rw [hs, hy]; omega
        generalize l[i].toNat = x at *
        have HN := Lib.hid hN
        clear hs hy hlen hb hb2 hlen2 hp hN
        go_wp2
        go_round
        case rel => exact ⟨i, y * 256 + x, by omega, by go_num, by go_num, HN.out⟩
        case measure => simp [intOf]
      · obtain rfl : j = 0 := by omega
        have HY := Lib.hid hy
        clear hy
        go_wp2
        go_ret
        exact ⟨ret_int (by rw [HY.out, List.drop_zero]), rfl⟩

theorem ref2_Put (A : Option Addr) (n c : Nat) (l : List UInt8) (at_ k : Int) (v : Nat) (w : World) (h : Bs w A n l) (hn : n ≤ 1000000) (h1 : -9223372036854775808 ≤ at_ ∧ at_ ≤ 9223372036854775807) (h2 : -9223372036854775808 ≤ k ∧ k ≤ 9223372036854775807) (hv : v < 18446744073709551616) :
    Calls Try.prog 34 #[.slice A n c, .int .i64 at_, .int .i64 k, .int .u64 v] w (MadeE w (put l at_ k v)) := by
  have hl := h.len
  have hck := ref2_wrong n at_ k w (by unfold maxLen; omega) h1 h2
  by_cases hw : wrong n at_ k = 0
  · obtain ⟨hk1, hk2, ha1, ha2⟩ := wrong_zero hw
    obtain ⟨a, rfl⟩ := Int.eq_ofNat_of_zero_le ha1
    obtain ⟨m, rfl⟩ := Int.eq_ofNat_of_zero_le (show 0 ≤ k by omega)
    rw [hw] at hck
    have hm8 : m ≤ 8 := by omega
    have hlay := fun w => ref2_Lay m v w hm8 hv
    have hnl := num_lay m v
    by_cases hbig : 256 ^ m ≤ v
    · have hp : put l (a : Int) (m : Int) v = ([], 11) := by
        unfold put
        rw [hl, hw, if_neg (by omega), if_pos (by simpa using hbig)]
      have hne : ((num (lay m v) : Int) != (v : Int)) = true := by
        rw [bne_iff_ne, hnl]
        have : v % 256 ^ m < 256 ^ m := Nat.mod_lt _ (Nat.pow_pos (by omega))
        omega
      rw [hp]
      have HC := Lib.hid hck
      have HLY := Lib.hid hlay
      clear hck hw hp hbig h hl hlay hnl
      go_enter Try.func34, Try.ntmps34
      go_wp2_with fail
      refine (HC.out).mono ?_
      rintro e w' ⟨rfl, rfl⟩
      go_wp2_with fail
      refine (HLY.out _).mono ?_
      rintro e w1 ⟨_, rfl, A1, c1, rfl, ho, on⟩
      rw [lay_length] at ho ⊢
      have HS := Lib.hid (Sl.of_own ho)
      have HN := Lib.hid on
      clear ho on
      go_wp2_with fail
      refine (ref2_Number _ _ _ (lay m v) _ HS.out hm8).mono ?_
      rintro e w' ⟨rfl, rfl⟩
      go_wp2
      go_ret2
      exact ⟨_, rfl, none, 0, rfl, own_nil _ _ _ _, HN.out⟩
    · have hp : put l (a : Int) (m : Int) v = (over l a (lay m v), 0) := by
        unfold put
        rw [hl, hw, if_neg (by omega), if_neg (by simpa using hbig)]
        simp
      have hne : ((num (lay m v) : Int) != (v : Int)) = false := by
        rw [num_lay_lt m v (by omega)]
        simp
      rw [hp]
      have HC := Lib.hid hck
      have HLY := Lib.hid hlay
      have HB := Lib.hid h
      have HL := Lib.hid hl
      obtain ⟨i0, hi, hz0, hz1, hz2⟩ := info_parts Try.byteInfo
      have HI := Lib.hid hi
      have HZ0 := Lib.hid hz0
      have HZ1 := Lib.hid hz1
      have HZ2 := Lib.hid hz2
      clear hck hw hp hbig h hl hlay hnl hi hz0 hz1 hz2
      go_enter Try.func34, Try.ntmps34
      go_wp2_with fail
      refine (HC.out).mono ?_
      rintro e w' ⟨rfl, rfl⟩
      go_wp2_with fail
      refine (HLY.out _).mono ?_
      rintro e w1 ⟨_, rfl, A1, c1, rfl, ho, on⟩
      rw [lay_length] at ho ⊢
      obtain ⟨gl, rfl, hbl, hgl, ho⟩ := OwnB.of ho (by omega)
      obtain ⟨A2, c2, w2, hr, ho2, hs2, on2⟩ := append_fresh (P := Try.prog) w1 22 22 5 i0 _ 1 Try.underlying22 HI.out HZ0.out HZ1.out HZ2.out rfl A n c _ (Sl.only0 HB.out on) one_B (by unfold maxLen; omega) (by omega)
      obtain ⟨g, rfl, hbg, hgg, ho2⟩ := OwnB.of ho2 (by omega)
      have HLB := Lib.hid (ho.only on2 (by simp))
      have HON := Lib.hid (on.trans0 on2)
      have HON0 := Lib.hid on
      have HO := Lib.hid ho2
      have HS := Lib.hid ho.bs
      have hne2 : gl ≠ g := by omega
      have hbg' : w.heap.size ≤ g := by have := on.size; omega
      clear ho on ho2 on2 hs2
      go_wp2_with fail
      refine (ref2_Number _ _ _ (lay m v) _ HS.out hm8).mono ?_
      rintro e w' ⟨rfl, rfl⟩
      go_wp2_with (at_builtin; refine wpList_append_run _ rfl (.const (.slice none 0 0)) (.tmp 29) 22 rfl _ _ rfl rfl _ _ hr ?_)
      go_loopw [13] (fun i wr => ∃ j : Nat, j ≤ m ∧ i = .int .i64 j ∧ OwnB 5 wr w1.heap.size g n c2 (over l a ((lay m v).take j)) ∧ Only [g] w2 wr) (fun i _ => m - (intOf i).toNat)
      case atStart => exact ⟨0, Nat.zero_le _, rfl, by rw [List.take_zero, over_nil]; exact HO.out, Only.refl _ _⟩
      case round =>
        obtain ⟨j, hj, rfl, ho, on⟩ := hrel
        by_cases hlt : j < m
        · have hcell := ho.cell (a + j) (by omega)
          have hfr := ho.frozen (a + j)
          have hjl : j < (lay m v).length := by rw [lay_length]; exact hlt
          have hc2 := (HLB.out.only on (by simpa using hne2)).cell j hlt
          have hst := ho.set (a + j) (x := (((lay m v).getD j 0).toNat : Int)) rfl
          rw [over_take_succ l (lay m v) a j (by rw [HL.out, lay_length]; omega) hjl] at hst
          have on2 := on.setCell (p := ⟨g, a + j, none⟩) (.inl (by simp)) (.int .u8 (((lay m v).getD j 0).toNat : Int))
          have H1 := Lib.hid hst
          have H2 := Lib.hid on2
          clear ho on hst on2 hjl
          generalize ((lay m v).getD j 0).toNat = x at *
          go_wp2
          go_roundw
          case rel => exact ⟨j + 1, by omega, by go_num, H1.out, H2.out⟩
          case measure => simp [intOf]; omega
        · obtain rfl : j = m := by omega
          have H1 := Lib.hid ho
          have H2 := Lib.hid on
          clear ho on
          go_wp2
          go_ret2
          have HM := H1.out
          rw [List.take_of_length_le (by rw [lay_length]; exact Nat.le_refl _)] at HM
          exact ⟨.slice (some ⟨g, 0, none⟩) n c2, rfl, madeB_of (OwnB.mono HM HON0.out.size) (HON.out.trans H2.out (by intro b hb; rw [List.mem_singleton] at hb; subst hb; exact .inr hbg'))⟩
  · have hp : put l at_ k v = ([], wrong n at_ k) := by
      unfold put
      rw [hl, if_pos hw]
    rw [hp]
    have hle := wrong_le n at_ k
    generalize wrong n at_ k = e at *
    have hb : ((e : Int) != 0) = true := by rw [bne_iff_ne]; omega
    have HC := Lib.hid hck
    clear hck hw hp h hl
    go_enter Try.func34, Try.ntmps34
    go_wp2_with fail
    refine (HC.out).mono ?_
    rintro e w' ⟨rfl, rfl⟩
    go_wp2
    go_ret2
    exact madeE_err _ _

theorem ref2_Get (A : Option Addr) (n c : Nat) (l : List UInt8) (at_ k : Int) (w : World) (h : Bs w A n l) (hn : n ≤ 1000000) (hc : n ≤ c) (h1 : -9223372036854775808 ≤ at_ ∧ at_ ≤ 9223372036854775807) (h2 : -9223372036854775808 ≤ k ∧ k ≤ 9223372036854775807) :
    Calls Try.prog 39 #[.slice A n c, .int .i64 at_, .int .i64 k] w fun e w' => e = .returned (.tuple #[.int .u64 (cget l at_ k).1, .int .i64 (cget l at_ k).2]) ∧ w = w' := by
  have hl := h.len
  have hck := ref2_wrong n at_ k w (by unfold maxLen; omega) h1 h2
  by_cases hw : wrong n at_ k = 0
  · obtain ⟨hk1, hk2, ha1, ha2⟩ := wrong_zero hw
    obtain ⟨a, rfl⟩ := Int.eq_ofNat_of_zero_le ha1
    obtain ⟨m, rfl⟩ := Int.eq_ofNat_of_zero_le (show 0 ≤ k by omega)
    rw [hw] at hck
    have hp : cget l (a : Int) (m : Int) = (num ((l.drop a).take m), 0) := by
      unfold cget
      rw [hl, hw, if_neg (by omega)]
      simp
    rw [hp]
    obtain ⟨b, off, rfl, hcell⟩ := h.at_ (by omega)
    have hcut := h.cut (a := a) (m := m) (by omega)
    have hca : ¬ c = a := by omega
    have HC := Lib.hid hck
    have HX := Lib.hid hcut
    clear hck hw hp h hl hcell hcut
    go_enter Try.func39, Try.ntmps39
    go_wp2_with fail
    refine (HC.out).mono ?_
    rintro e w' ⟨rfl, rfl⟩
    go_wp2_with fail
    refine (ref2_Number _ _ _ _ _ HX.out (by omega)).mono ?_
    rintro e w' ⟨rfl, rfl⟩
    go_wp2
    go_ret2
    exact ⟨rfl, rfl⟩
  · have hp : cget l at_ k = (0, wrong n at_ k) := by
      unfold cget
      rw [hl, if_pos hw]
    rw [hp]
    have hle := wrong_le n at_ k
    generalize wrong n at_ k = e at *
    have hb : ((e : Int) != 0) = true := by rw [bne_iff_ne]; omega
    have HC := Lib.hid hck
    clear hck hw hp h hl
    go_enter Try.func39, Try.ntmps39
    go_wp2_with fail
    refine (HC.out).mono ?_
    rintro e w' ⟨rfl, rfl⟩
    go_wp2
    go_ret2
    exact ⟨rfl, rfl⟩
theorem ref2_Zeros (A : Option Addr) (n c : Nat) (l : List UInt8) (i j : Int) (w : World) (h : Bs w A n l) (hn : n ≤ 1000000) (h1 : -9223372036854775808 ≤ i ∧ i ≤ 9223372036854775807) (h2 : -9223372036854775808 ≤ j ∧ j ≤ 9223372036854775807) :
    Calls Try.prog 41 #[.slice A n c, .int .i64 i, .int .i64 j] w fun e w' => e = .returned (.bool (zeros l i j)) ∧ w = w' := by
  have hl := h.len
  by_cases ha : 0 ≤ i ∧ i ≤ j ∧ j ≤ n
  · obtain ⟨ha1, ha2, ha3⟩ := ha
    obtain ⟨a, rfl⟩ := Int.eq_ofNat_of_zero_le ha1
    obtain ⟨m, rfl⟩ := Int.eq_ofNat_of_zero_le (show 0 ≤ j by omega)
    rw [zeros_in (by omega) (by omega)]
    have HX := Lib.hid h
    have HL := Lib.hid hl
    clear h hl
    go_enter Try.func41, Try.ntmps41
    go_wp2
    go_loop [7] (fun i => ∃ j : Nat, j ≤ m - a ∧ i = .int .i64 ((a : Int) + j) ∧ zall l a j = true) (fun i => m - (intOf i).toNat)
    case atStart => exact ⟨0, Nat.zero_le _, by go_num, rfl⟩
    case round =>
      obtain ⟨j, hj, rfl, hz⟩ := hrel
      have HZ := Lib.hid hz
      clear hz
      by_cases hlt : j < m - a
      · obtain ⟨b, off, rfl, hcell⟩ := HX.out.at_ (by omega)
        have hjl : a + j < l.length := by rw [HL.out]; omega
        obtain ⟨x, hx⟩ : ∃ x, l[a + j]? = some x := ⟨_, List.getElem?_eq_getElem hjl⟩
        have hc1 : w.cell? ⟨b, off + (a + j), none⟩ = some (.int .u8 (x.toNat : Int)) := by
          rw [hcell (a + j) hjl]
          rw [List.getElem?_eq_getElem hjl] at hx
          rw [Option.some.inj hx]
        have HQ := Lib.hid hx
        clear hx hcell
        by_cases h0 : x = 0
        · subst h0
          go_wp2
          go_round
          case rel => exact ⟨j + 1, by omega, by go_num, by rw [zall_succ, HZ.out, HQ.out]; rfl⟩
          case measure => simp [intOf]; omega
        · have hs : ((x.toNat : Int) != 0) = true := by
            rw [bne_iff_ne]
            exact fun e => h0 (UInt8.toNat_inj.1 (Int.ofNat.inj e))
          have HF := Lib.hid (zall_false (b := l) (a := a) hlt (by rw [HQ.out]; simpa using h0))
          clear h0
          go_wp2
          go_ret
          exact ⟨ret_bool HF.out.symm, rfl⟩
      · obtain rfl : j = m - a := by omega
        go_wp2
        go_ret
        exact ⟨ret_bool HZ.out.symm, rfl⟩
  · have hz := zeros_out (b := l) (i := i) (j := j) (by rw [hl]; exact ha)
    rw [hz]
    clear h hl hz
    by_cases h3 : i < 0
    · clear ha
      go_enter Try.func41, Try.ntmps41
      go_wp2
      go_ret
      exact ⟨rfl, rfl⟩
    · by_cases h4 : j < i
      · clear ha
        go_enter Try.func41, Try.ntmps41
        go_wp2
        go_ret
        exact ⟨rfl, rfl⟩
      · have h5 : (n : Int) < j := by omega
        clear ha
        go_enter Try.func41, Try.ntmps41
        go_wp2
        go_ret
        exact ⟨rfl, rfl⟩
/-- what was answered may be written over: nothing else turns -/
theorem law0_OverBytes {w0 : World} (A : Option Addr) (n c : Nat) (l : List UInt8) (w : World) (h : w.ownsRow w0.heap.size 5 1 (.slice A n c) n (l.map B)) (on : Only [] w0 w) (hn : n ≤ 1000000) :
    Calls Try.prog 37 #[.slice A n c] w fun e w' => e = .returned (.tuple #[]) ∧ Only [] w0 w' := by
  obtain ⟨i0, hi, hz0, hz1, hz2⟩ := info_parts Try.byteInfo
  have HI := Lib.hid hi
  have HZ0 := Lib.hid hz0
  have HZ1 := Lib.hid hz1
  have HZ2 := Lib.hid hz2
  have HO := Lib.hid h
  have HN := Lib.hid on
  clear hi hz0 hz1 hz2 h on
  go_enter Try.func37, Try.ntmps37
  go_wp2
  go_loopw [2] (fun i wr => ∃ (j : Nat) (l' : List UInt8), j ≤ n ∧ i = .int .i64 j ∧ wr.ownsRow w0.heap.size 5 1 (.slice A n c) n (l'.map B) ∧ Only [] w0 wr) (fun i _ => n - (intOf i).toNat)
  case atStart => exact ⟨0, l, Nat.zero_le _, rfl, HO.out, HN.out⟩
  case round =>
    obtain ⟨j, l', hj, rfl, ho, on⟩ := hrel
    by_cases hlt : j < n
    · obtain ⟨g, rfl, hbg, hgg, ho⟩ := OwnB.of ho (by omega)
      have hcell := ho.cell j hlt
      have hfr := ho.frozen j
      have hst := ho.set j (xor8 (l'.getD j 0) 255 (by omega))
      have on2 := on.setCell (p := ⟨g, j, none⟩) (.inr hbg) (.int .u8 (bits .xor .u8 ((l'.getD j 0).toNat : Int) ((255 : Nat) : Int)))
      rw [show ((255 : Nat) : Int) = 255 from rfl] at hst on2
      have H1 := Lib.hid hst
      have H2 := Lib.hid on2
      clear ho on hst on2
      generalize l'.set j (l'.getD j 0 ^^^ UInt8.ofNat 255) = l2 at *
      generalize (l'.getD j 0).toNat = x at *
      go_wp2
      go_roundw
      case rel => exact ⟨j + 1, l2, by omega, by go_num, H1.out, H2.out⟩
      case measure => simp [intOf]; omega
    · obtain rfl : j = n := by omega
      obtain ⟨A', c', w', hr, ho2, hs2, on2⟩ := append_own (P := Try.prog) (wr.alloc (.cells #[.int .u8 90] 5)) (on.alloc _) 22 22 5 i0 _ 1 Try.underlying22 HI.out HZ0.out HZ1.out HZ2.out rfl _ j _ (ho.alloc _) (some ⟨wr.heap.size, 0, none⟩) 1 1 [.int .u8 90] (one_cell _ _ _) (one_ints _ _) (by unfold maxLen; omega) (by omega)
      have H2 := Lib.hid on2
      clear ho on hs2 ho2 on2
      go_wp2_with (at_builtin; refine wpList_append_run _ rfl (.tmp 17) (.tmp 18) 22 rfl _ _ rfl rfl _ _ hr ?_)
      go_end0
      exact ⟨rfl, H2.out⟩
end Go.Proofs.Ytjagedcaemckfaa
