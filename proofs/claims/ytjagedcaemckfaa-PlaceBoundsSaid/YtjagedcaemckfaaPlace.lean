/- The contracts of package place and of its reference, and the walks of the statements on them. -/
import Derived.Test.YtjagedcaemckfaaSum
namespace Go.Proofs.Ytjagedcaemckfaa
open Go.RowKit Go.Proofs.FuCrc Go.Proofs.FuMem

/-- how many levels have a key of this sum -/
def lev (c : Nat) : Nat := if c / 2 ^ 31 % 2 = 0 then 1 else if c / 2 ^ 30 % 2 = 0 then 2 else if c / 2 ^ 29 % 2 = 0 then 3 else 4
def Ones (c k : Nat) : Prop := ∀ j, j < k → c / 2 ^ (31 - j) % 2 = 1
theorem lev_of {c k : Nat} (hk : k ≤ 3) (h : Ones c k) (h2 : k = 3 ∨ c / 2 ^ (31 - k) % 2 = 0) : lev c = k + 1 := by
  unfold lev
  have h0 := h 0
  have h1 := h 1
  have h3 := h 2
  obtain rfl | rfl | rfl | rfl : k = 0 ∨ k = 1 ∨ k = 2 ∨ k = 3 := by omega
  all_goals simp at h0 h1 h3 h2 ⊢
  all_goals simp [*]
theorem ones_succ {c k : Nat} (h : Ones c k) (h2 : c / 2 ^ (31 - k) % 2 = 1) : Ones c (k + 1) := fun j hj => by
  by_cases e : j = k
  · rw [e]; exact h2
  · exact h j (by omega)
theorem bit_at {c k : Nat} (hc : c < 4294967296) : bits .and .u32 ((c : Int) / 2 ^ (31 - k)) 1 = ((c / 2 ^ (31 - k) % 2 : Nat) : Int) := by
  rw [show (c : Int) / 2 ^ (31 - k) = ((c / 2 ^ (31 - k) : Nat) : Int) by simp]
  exact bits_and32_1 _ (Nat.lt_of_le_of_lt (Nat.div_le_self _ _) hc)
theorem bit_zero {c k : Nat} (hc : c < 4294967296) (h : (bits .and .u32 ((c : Int) / 2 ^ (31 - k)) 1 == 0) = true) : c / 2 ^ (31 - k) % 2 = 0 := by
  rw [bit_at hc, beq_iff_eq] at h
  exact Int.ofNat.inj h
theorem bit_one {c k : Nat} (hc : c < 4294967296) (h : (bits .and .u32 ((c : Int) / 2 ^ (31 - k)) 1 == 0) = false) : c / 2 ^ (31 - k) % 2 = 1 := by
  rw [bit_at hc] at h
  have : ¬ c / 2 ^ (31 - k) % 2 = 0 := fun e => by simp [e] at h
  omega
theorem place_Bucket (s : ByteArray) (w : World) (hn : s.size ≤ maxLen) :
    Calls Try.prog 28 #[.string s] w fun e w' => e = .returned (.int .i64 ((crc s.data.toList % 8 : Nat) : Int)) ∧ w = w' := by
  have hc := crc_lt s.data.toList
  go_enter Try.func28, Try.ntmps28
  go_wp2_with fail
  refine (sum_Text _ _ hn).mono ?_
  rintro e w' ⟨rfl, rfl⟩
  go_wp2
  go_ret
  exact ⟨ret_int (by omega), rfl⟩
theorem ref11_Bucket (s : ByteArray) (w : World) (hn : s.size ≤ maxLen) :
    Calls Try.prog 29 #[.string s] w fun e w' => e = .returned (.int .i64 ((crc s.data.toList % 8 : Nat) : Int)) ∧ w = w' := by
  have hc := crc_lt s.data.toList
  go_enter Try.func29, Try.ntmps29
  go_wp2_with fail
  refine (ref1_Text _ _ hn).mono ?_
  rintro e w' ⟨rfl, rfl⟩
  go_wp2
  go_ret
  exact ⟨ret_int (by omega), rfl⟩
theorem place_Level (s : ByteArray) (w : World) (hn : s.size ≤ maxLen) :
    Calls Try.prog 30 #[.string s] w fun e w' => e = .returned (.int .i64 (lev (crc s.data.toList))) ∧ w = w' := by
  have hc := crc_lt s.data.toList
  have HT := sum_Text s w hn
  generalize crc s.data.toList = c at *
  have HT := Lib.hid HT
  go_enter Try.func30, Try.ntmps30
  go_wp2_with fail
  refine HT.out.mono ?_
  rintro e w' ⟨rfl, rfl⟩
  go_wp2
  go_loop [4, 5, 8] (fun n _ i => ∃ k : Nat, k ≤ 3 ∧ Ones c k ∧ i = .int .i64 k ∧ n = .int .i64 ((k : Int) + 1)) (fun _ _ i => 3 - (intOf i).toNat)
  case atStart => exact ⟨0, by omega, fun j hj => by omega, rfl, rfl⟩
  case round =>
    obtain ⟨k, hk, ho, rfl, rfl⟩ := hrel
    have HO := Lib.hid ho
    clear ho
    by_cases hlt : k < 3
    · go_wp2
      · go_ret
        exact ⟨ret_int (by rw [lev_of hk HO.out (.inr (bit_zero hc ‹_›))]; omega), rfl⟩
      · go_round
        case rel => exact ⟨k + 1, by omega, ones_succ HO.out (bit_one hc ‹_›), by go_num, by go_num⟩
        case measure => simp [intOf]; omega
    · go_wp2
      go_ret
      exact ⟨ret_int (by rw [lev_of hk HO.out (.inl (by omega))]; omega), rfl⟩
/-- the sum k bits up -/
def shl (c k : Nat) : Nat := c * 2 ^ k % 4294967296
theorem shl_lt (c k : Nat) : shl c k < 4294967296 := Nat.mod_lt _ (by omega)
theorem shl_succ (c k : Nat) : shl c (k + 1) = shl c k * 2 % 4294967296 := by
  unfold shl
  rw [Nat.pow_succ, ← Nat.mul_assoc]
  generalize c * 2 ^ k = x
  omega
theorem shl_bit {c k : Nat} (hk : k ≤ 3) : (c / 2 ^ (31 - k) % 2 = 1 ↔ 2147483648 ≤ shl c k) := by
  obtain rfl | rfl | rfl | rfl : k = 0 ∨ k = 1 ∨ k = 2 ∨ k = 3 := by omega
  all_goals simp only [shl]; simp; omega
set_option maxRecDepth 100000 in
theorem ref11_Level (s : ByteArray) (w : World) (hn : s.size ≤ maxLen) :
    Calls Try.prog 31 #[.string s] w fun e w' => e = .returned (.int .i64 (lev (crc s.data.toList))) ∧ w = w' := by
  have hc := crc_lt s.data.toList
  have HT := ref1_Text s w hn
  generalize crc s.data.toList = c at *
  have HT := Lib.hid HT
  have h0 : shl c 0 = c := by simp [shl]; omega
  have H0 := Lib.hid h0
  clear h0
  go_enter Try.func31, Try.ntmps31
  go_wp2_with fail
  refine HT.out.mono ?_
  rintro e w' ⟨rfl, rfl⟩
  go_wp2
  go_loop [3, 4] (fun x n => ∃ k : Nat, k ≤ 3 ∧ Ones c k ∧ x = .int .u32 (shl c k) ∧ n = .int .i64 ((k : Int) + 1)) (fun _ n => 4 - (intOf n).toNat)
  case atStart => exact ⟨0, by omega, fun j hj => by omega, by rw [H0.out], rfl⟩
  case round =>
    obtain ⟨k, hk, ho, rfl, rfl⟩ := hrel
    have HO := Lib.hid ho
    have HB := Lib.hid (shl_bit (c := c) hk)
    have HS := Lib.hid (shl_succ c k)
    have hs := shl_lt c k
    clear ho
    generalize shl c k = x at *
    by_cases hlt : k < 3
    · by_cases hb : (2147483648 : Int) ≤ (x : Int)
      · go_wp2
        go_round
        case rel => exact ⟨k + 1, by omega, ones_succ HO.out (HB.out.2 (by omega)), by rw [HS.out]; go_num, by go_num⟩
        case measure => simp [intOf]; omega
      · go_wp2
        go_ret
        exact ⟨ret_int (by rw [lev_of hk HO.out (.inr (by have := HB.out; omega))]; omega), rfl⟩
    · go_wp2
      go_ret
      exact ⟨ret_int (by rw [lev_of hk HO.out (.inl (by omega))]; omega), rfl⟩
theorem crc_none : crc [] = 0 := by decide
theorem lev_digits : lev 3421780262 = 3 := by decide
theorem law11_awake (w : World) : Calls Try.prog 27 #[] w fun e w' => e = .returned (.bool true) ∧ w = w' := by
  have h1 := place_Bucket ⟨#[49, 50, 51, 52, 53, 54, 55, 56, 57]⟩ w (by decide)
  have h2 := place_Level ⟨#[49, 50, 51, 52, 53, 54, 55, 56, 57]⟩ w (by decide)
  have h3 := place_Level ⟨#[]⟩ w (by decide)
  have e9 : crc [49, 50, 51, 52, 53, 54, 55, 56, 57] = 3421780262 := by decide +kernel
  simp only [e9, crc_none] at h1 h2 h3
  rw [show lev 0 = 1 by decide] at h3
  rw [lev_digits] at h2
  have H1 := Lib.hid h1
  have H2 := Lib.hid h2
  have H3 := Lib.hid h3
  clear h1 h2 h3 e9
  go_enter Try.func27, Try.ntmps27
  go_wp2_with fail
  refine H1.out.mono ?_
  rintro e w' ⟨rfl, rfl⟩
  go_wp2_with fail
  refine H2.out.mono ?_
  rintro e w' ⟨rfl, rfl⟩
  go_wp2_with fail
  refine H3.out.mono ?_
  rintro e w' ⟨rfl, rfl⟩
  go_wp2
  go_ret
  exact ⟨rfl, rfl⟩
theorem walk_PlaceTells (s : ByteArray) (w : World) (hn : s.size ≤ maxLen) :
    Calls Try.prog 7 #[.string s] w fun e w' => e = .returned (.bool true) ∧ Only [] w w' := by
  have hm := hn
  unfold maxLen at hm
  by_cases hbig : 4096 < s.size
  · go_enter Try.func7, Try.ntmps7
    go_wp2_with fail
    refine (law11_awake _).mono ?_
    rintro e w' ⟨rfl, rfl⟩
    go_wp2
    go_ret
    exact ⟨rfl, Only.refl _ _⟩
  · go_enter Try.func7, Try.ntmps7
    go_wp2_with fail
    refine (place_Bucket _ _ hn).mono ?_
    rintro e w' ⟨rfl, rfl⟩
    go_wp2_with fail
    refine (ref11_Bucket _ _ hn).mono ?_
    rintro e w' ⟨rfl, rfl⟩
    go_wp2_with fail
    refine (place_Level _ _ hn).mono ?_
    rintro e w' ⟨rfl, rfl⟩
    go_wp2_with fail
    refine (ref11_Level _ _ hn).mono ?_
    rintro e w' ⟨rfl, rfl⟩
    go_wp2_with fail
    refine (law11_awake _).mono ?_
    rintro e w' ⟨rfl, rfl⟩
    go_wp2
    go_ret
    exact ⟨rfl, Only.refl _ _⟩
theorem lev_lo (c : Nat) : 1 ≤ lev c ∧ lev c ≤ 4 := by
  unfold lev
  repeat' split
  all_goals omega
theorem lev_1 {c : Nat} (hc : c < 4294967296) : decide (1 < (lev c : Int)) = ((c : Int) / 2147483648 == 1) := by
  rw [Bool.eq_iff_iff]
  unfold lev
  simp only [Nat.reducePow, decide_eq_true_iff, beq_iff_eq]
  repeat' split
  all_goals omega
theorem lev_2 {c : Nat} (hc : c < 4294967296) : decide (2 < (lev c : Int)) = ((c : Int) / 1073741824 == 3) := by
  rw [Bool.eq_iff_iff]
  unfold lev
  simp only [Nat.reducePow, decide_eq_true_iff, beq_iff_eq]
  repeat' split
  all_goals omega
theorem lev_3 {c : Nat} (hc : c < 4294967296) : decide (3 < (lev c : Int)) = ((c : Int) / 536870912 == 7) := by
  rw [Bool.eq_iff_iff]
  unfold lev
  simp only [Nat.reducePow, decide_eq_true_iff, beq_iff_eq]
  repeat' split
  all_goals omega
theorem walk_PlaceBounds (s : ByteArray) (w : World) (hn : s.size ≤ maxLen) :
    Calls Try.prog 8 #[.string s] w fun e w' => e = .returned (.bool true) ∧ Only [] w w' := by
  have hm := hn
  unfold maxLen at hm
  by_cases hbig : 4096 < s.size
  · go_enter Try.func8, Try.ntmps8
    go_wp2_with fail
    refine (law11_awake _).mono ?_
    rintro e w' ⟨rfl, rfl⟩
    go_wp2
    go_ret
    exact ⟨rfl, Only.refl _ _⟩
  · have hc := crc_lt s.data.toList
    have H1 := place_Bucket s w hn
    have H2 := place_Level s w hn
    have H3 := sum_Text s w hn
    generalize crc s.data.toList = c at *
    have H1 := Lib.hid H1
    have H2 := Lib.hid H2
    have H3 := Lib.hid H3
    have hl := lev_lo c
    have L1 := Lib.hid (lev_1 hc)
    have L2 := Lib.hid (lev_2 hc)
    have L3 := Lib.hid (lev_3 hc)
    go_enter Try.func8, Try.ntmps8
    go_wp2_with fail
    refine H1.out.mono ?_
    rintro e w' ⟨rfl, rfl⟩
    go_wp2_with fail
    refine H2.out.mono ?_
    rintro e w' ⟨rfl, rfl⟩
    go_wp2_with fail
    refine H3.out.mono ?_
    rintro e w' ⟨rfl, rfl⟩
    go_wp2_with fail
    all_goals first | exact absurd L3.out ‹_› | exact absurd L2.out ‹_› | exact absurd L1.out ‹_› | skip
    refine (law11_awake _).mono ?_
    rintro e w' ⟨rfl, rfl⟩
    go_wp2
    go_ret
    exact ⟨rfl, Only.refl _ _⟩
end Go.Proofs.Ytjagedcaemckfaa
