/- The walks of the statements on sum. -/
import Derived.Test.YtjagedcaemckfaaSum
import Derived.Test.YtjagedcaemckfaaLend
namespace Go.Proofs.Ytjagedcaemckfaa
open Go.RowKit Go.Proofs.FuCrc Go.Proofs.FuMem

theorem ref1_Sum (A : Option Addr) (n cap : Nat) (l : List UInt8) (w : World) (hb : Bs w A n l) (hn : n ≤ maxLen) :
    Calls Try.prog 21 #[.slice A n cap] w fun e w' => e = .returned (.int .u32 (crc l)) ∧ w = w' := by
  have h1 := run_str (P := Try.prog) Try.underlying22 Try.underlying5 Try.underlying9 hb cap
  have hs : (ByteArray.mk l.toArray).size ≤ maxLen := by rw [show (ByteArray.mk l.toArray).size = l.length from rfl, hb.len]; exact hn
  clear hb
  go_enter Try.func21, Try.ntmps21
  go_wp2_with (go_at_call 55; refine (ref1_Text _ _ hs).mono ?_; rintro e w' ⟨rfl, rfl⟩)
  go_ret
  exact ⟨rfl, rfl⟩
theorem crc_digits : crc [49, 50, 51, 52, 53, 54, 55, 56, 57] = 3421780262 := by decide +kernel
theorem law1_awake (w : World) : Calls Try.prog 18 #[] w fun e w' => e = .returned (.bool true) ∧ w = w' := by
  go_enter Try.func18, Try.ntmps18
  go_wp2_with fail
  refine (sum_Text ⟨#[49, 50, 51, 52, 53, 54, 55, 56, 57]⟩ _ (by decide)).mono ?_
  rintro e w' ⟨rfl, rfl⟩
  rw [crc_digits]
  go_wp2_with fail
  refine (sum_Sum none 0 0 [] _ (Bs.nil _ _) (by decide)).mono ?_
  rintro e w' ⟨rfl, rfl⟩
  rw [crc_nil]
  go_wp2
  go_ret
  exact ⟨rfl, rfl⟩

theorem walk_SumTells (A : Option Addr) (n c : Nat) (l : List UInt8) (x : Nat) (w : World) (h : Bs w A n l) (hn : n ≤ maxLen) (hx : x < 4294967296) :
    Calls Try.prog 3 #[.slice A n c, .int .u32 x] w fun e w' => e = .returned (.bool true) ∧ Only [] w w' := by
  have HB := Lib.hid h
  clear h
  unfold maxLen at hn
  by_cases hbig : 4096 < n
  · go_enter Try.func3, Try.ntmps3
    go_wp2_with fail
    refine (law1_awake _).mono ?_
    rintro e w' ⟨rfl, rfl⟩
    go_wp2
    go_ret
    exact ⟨rfl, Only.refl _ _⟩
  · go_enter Try.func3, Try.ntmps3
    go_wp2_with fail
    refine (law0_LendBytes A n c l _ HB.out (by omega)).mono ?_
    rintro e w1 ⟨rfl, hl, ho⟩
    have hb1 : Bs w1 (some ⟨w.heap.size, 0, none⟩) n l := Sl.of_blk hl 0 (by simp [← HB.out.len]) (by simp [← HB.out.len])
    have h1 := HB.out.only0 ho
    have hst := run_str (P := Try.prog) Try.underlying22 Try.underlying5 Try.underlying9 h1 c
    have hs : (ByteArray.mk l.toArray).size ≤ maxLen := by rw [show (ByteArray.mk l.toArray).size = l.length from rfl, HB.out.len]; unfold maxLen; omega
    have HL := Lib.hid hl
    have HO := Lib.hid ho
    have HB1 := Lib.hid hb1
    have H1 := Lib.hid h1
    clear hl ho hb1 h1
    go_wp2_with fail
    refine (sum_Sum _ _ _ l _ HB1.out (by unfold maxLen; omega)).mono ?_
    rintro e w' ⟨rfl, rfl⟩
    go_wp2_with fail
    refine (ref1_Sum _ _ _ l _ H1.out (by unfold maxLen; omega)).mono ?_
    rintro e w' ⟨rfl, rfl⟩
    go_wp2_with fail
    refine (sum_Text _ _ hs).mono ?_
    rintro e w' ⟨rfl, rfl⟩
    go_wp2_with fail
    refine (ref1_Sum _ _ _ l _ H1.out (by unfold maxLen; omega)).mono ?_
    rintro e w' ⟨rfl, rfl⟩
    go_wp2_with fail
    refine (sum_Add _ _ _ _ l _ hx HB1.out (by unfold maxLen; omega)).mono ?_
    rintro e w' ⟨rfl, rfl⟩
    go_wp2_with fail
    refine (ref1_Add _ _ _ _ l _ hx H1.out (by unfold maxLen; omega)).mono ?_
    rintro e w' ⟨rfl, rfl⟩
    go_wp2_with fail
    refine (law0_KeptBytes _ _ _ l _ _ HL.out H1.out (by omega)).mono ?_
    rintro e w' ⟨rfl, rfl⟩
    go_wp2_with fail
    refine (law1_awake _).mono ?_
    rintro e w' ⟨rfl, rfl⟩
    go_wp2
    go_ret
    exact ⟨rfl, HO.out⟩
end Go.Proofs.Ytjagedcaemckfaa
