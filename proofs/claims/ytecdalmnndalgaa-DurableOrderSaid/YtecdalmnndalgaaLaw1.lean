/- The walks of the statements on sum. -/
import Derived.Test.YtecdalmnndalgaaSum
import Derived.Test.YtecdalmnndalgaaLend
namespace Go.Proofs.Ytecdalmnndalgaa
open Go.RowKit Go.Proofs.FuCrc Go.Proofs.FuMem
set_option maxRecDepth 100000

theorem ref1_Sum (A : Option Addr) (n cap : Nat) (l : List UInt8) (w : World) (hb : Bs w A n l) (hn : n ≤ maxLen) :
    Calls Try.prog 77 #[.slice A n cap] w fun e w' => e = .returned (.int .u32 (crc l)) ∧ w = w' := by
  have h1 := run_str (P := Try.prog) Try.underlying48 Try.underlying5 Try.underlying9 hb cap
  have hs : (ByteArray.mk l.toArray).size ≤ maxLen := by rw [show (ByteArray.mk l.toArray).size = l.length from rfl, hb.len]; exact hn
  clear hb
  go_enter Try.func77, Try.ntmps77
  go_wp2_with (go_at_call 81; refine (ref1_Text _ _ hs).mono ?_; rintro e w' ⟨rfl, rfl⟩)
  go_ret
  exact ⟨rfl, rfl⟩
theorem crc_digits : crc [49, 50, 51, 52, 53, 54, 55, 56, 57] = 3421780262 := by decide +kernel
end Go.Proofs.Ytecdalmnndalgaa
