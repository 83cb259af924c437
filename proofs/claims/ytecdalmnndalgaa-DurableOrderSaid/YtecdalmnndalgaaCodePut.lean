/- The contract of code.Put. -/
import Derived.Test.YtecdalmnndalgaaCode
namespace Go.Proofs.Ytecdalmnndalgaa
open Go.RowKit Go.Proofs.FuMem Go.Proofs.FuCode
set_option maxRecDepth 100000

/-- bytes and an error handed back -/
def MadeE (w : World) (r : List UInt8 × Nat) (e : Ending) (w' : World) : Prop := ∃ x, e = .returned (.tuple #[x, .int .i64 r.2]) ∧ MadeB w r.1 x w'
theorem madeE_err (w : World) (k : Nat) : MadeE w ([], k) (.returned (.tuple #[.slice none 0 0, .int .i64 k])) w := ⟨_, rfl, none, 0, rfl, own_nil _ _ _ _, Only.refl _ _⟩
theorem byte_shr (v j : Nat) : ((v : Int) / 2 ^ (8 * j) % 256) = ((UInt8.ofNat (v / 256 ^ j % 256)).toNat : Int) := by
  rw [ofNat_mod, pow256]
  simp
theorem over_lay_succ (l : List UInt8) (a j v : Nat) (h : a + j < l.length) : (over l a (lay j v)).set (a + j) (UInt8.ofNat (v / 256 ^ j % 256)) = over l a (lay (j + 1) v) := by
  have := over_snoc l a (lay j v) (UInt8.ofNat (v / 256 ^ j % 256)) (by rw [lay_length]; exact h)
  rw [lay_succ, this, lay_length]
theorem shr_pos {v m : Nat} (h : 256 ^ m ≤ v) : ((v : Int) / 2 ^ (8 * m) != 0) = true := by
  have h0 : 0 < v / 256 ^ m := Nat.div_pos h (Nat.pow_pos (by omega))
  rw [pow256] at h0
  have : (v : Int) / 2 ^ (8 * m) = ((v / 2 ^ (8 * m) : Nat) : Int) := by simp
  rw [bne_iff_ne]
  omega
theorem shr_zero {v m : Nat} (h : v < 256 ^ m) : ((v : Int) / 2 ^ (8 * m) != 0) = false := by
  have h0 : v / 256 ^ m = 0 := Nat.div_eq_of_lt h
  rw [pow256] at h0
  have : (v : Int) / 2 ^ (8 * m) = ((v / 2 ^ (8 * m) : Nat) : Int) := by simp
  rw [this, h0]
  rfl
theorem code_Put (A : Option Addr) (n c : Nat) (l : List UInt8) (at_ k : Int) (v : Nat) (w : World) (h : Bs w A n l) (hn : n ≤ 1000000) (h1 : -9223372036854775808 ≤ at_ ∧ at_ ≤ 9223372036854775807) (h2 : -9223372036854775808 ≤ k ∧ k ≤ 9223372036854775807) (hv : v < 18446744073709551616) :
    Calls Try.prog 68 #[.slice A n c, .int .i64 at_, .int .i64 k, .int .u64 v] w (MadeE w (put l at_ k v)) := by
  have hl := h.len
  have hck := code_check A n c at_ k w (by unfold maxLen; omega) h1 h2
  by_cases hw : wrong n at_ k = 0
  · obtain ⟨hk1, hk2, ha1, ha2⟩ := wrong_zero hw
    obtain ⟨a, rfl⟩ := Int.eq_ofNat_of_zero_le ha1
    obtain ⟨m, rfl⟩ := Int.eq_ofNat_of_zero_le (show 0 ≤ k by omega)
    rw [hw] at hck
    by_cases hbig : 256 ^ m ≤ v
    · have hm : m < 8 := by
        rcases Nat.lt_or_ge m 8 with h8 | h8
        · exact h8
        · have : 256 ^ 8 ≤ 256 ^ m := Nat.pow_le_pow_right (by omega) h8
          omega
      have hp : put l (a : Int) (m : Int) v = ([], 11) := by
        unfold put
        rw [hl, hw, if_neg (by omega), if_pos (by simpa using hbig)]
      have hs := shr_pos hbig
      rw [hp]
      have HC := Lib.hid hck
      clear hck hw hp hbig h hl
      go_enter Try.func68, Try.ntmps68
      go_wp2_with fail
      refine (HC.out).mono ?_
      rintro e w' ⟨rfl, rfl⟩
      go_wp2
      go_ret2
      exact madeE_err _ 11
    · have hp : put l (a : Int) (m : Int) v = (over l a (lay m v), 0) := by
        unfold put
        rw [hl, hw, if_neg (by omega), if_neg (by simpa using hbig)]
        simp
      rw [hp]
      have hs := shr_zero (Nat.lt_of_not_le hbig)
      have hcl := clone_bytes A n c l w h hn
      have HCL := Lib.hid hcl
      have HC := Lib.hid hck
      have HL := Lib.hid hl
      clear hck hw hp hbig h hl hcl
      by_cases hm : m < 8
      all_goals
        go_enter Try.func68, Try.ntmps68
        go_wp2_with fail
        refine (HC.out).mono ?_
        rintro e w' ⟨rfl, rfl⟩
        go_wp2_with fail
        refine HCL.out.mono ?_
        rintro e w1 ⟨_, rfl, A1, c1, rfl, ho, on⟩
        rw [HL.out] at ho ⊢
        obtain ⟨g, rfl, hbg, hgl, ho⟩ := OwnB.of ho (by omega)
        have HO := Lib.hid ho
        have HN := Lib.hid on
        clear ho on
        go_wp2
        go_loopw [12, 32] (fun _ i wr => ∃ j : Nat, j ≤ m ∧ i = .int .i64 j ∧ OwnB 5 wr w.heap.size g n c1 (over l a (lay j v)) ∧ Only [] w wr) (fun _ i _ => m - (intOf i).toNat)
        case atStart => exact ⟨0, Nat.zero_le _, rfl, by rw [show lay 0 v = [] from rfl, over_nil]; exact HO.out, HN.out⟩
        case round =>
          obtain ⟨j, hj, rfl, ho, on⟩ := hrel
          by_cases hlt : j < m
          · have hcell := ho.cell (a + j) (by omega)
            have hfr := ho.frozen (a + j)
            have hst := ho.set (a + j) (byte_shr v j)
            rw [over_lay_succ l a j v (by rw [HL.out]; omega)] at hst
            have on2 := on.setCell (p := ⟨g, a + j, none⟩) (.inr hbg) (.int .u8 ((v : Int) / 2 ^ (8 * j) % 256))
            have H1 := Lib.hid hst
            have H2 := Lib.hid on2
            clear ho on hst on2
            go_wp2
            go_roundw
            case rel => exact ⟨j + 1, by omega, by go_num, H1.out, H2.out⟩
            case measure => simp [intOf]; omega
          · obtain rfl : j = m := by omega
            have H1 := Lib.hid ho
            have H2 := Lib.hid on
            clear ho on
            go_wp2
            go_ret2
            exact ⟨.slice (some ⟨g, 0, none⟩) n c1, rfl, madeB_of H1.out H2.out⟩
  · have hp : put l at_ k v = ([], wrong n at_ k) := by
      unfold put
      rw [hl, if_pos hw]
    rw [hp]
    have hle := wrong_le n at_ k
    generalize wrong n at_ k = e at *
    have hb : ((e : Int) != 0) = true := by rw [bne_iff_ne]; omega
    have HC := Lib.hid hck
    clear hck hw hp h hl
    go_enter Try.func68, Try.ntmps68
    go_wp2_with fail
    refine (HC.out).mono ?_
    rintro e w' ⟨rfl, rfl⟩
    go_wp2
    go_ret2
    exact madeE_err _ _
end Go.Proofs.Ytecdalmnndalgaa
