/- The contracts of package class and of its reference, with what they call of geom. -/
import Derived.Test.YtpenmnngjfncgaaInts
import Derived.Test.YtpenmnngjfncgaaClassP
namespace Go.Proofs.Ytpenmnngjfncgaa
open Go.RowKit Go.Proofs.FuMem Go.Proofs.FuClass
set_option maxRecDepth 100000

theorem class_Span (c : Int) (w : World) (h : -9223372036854775808 ≤ c ∧ c ≤ 9223372036854775807) :
    Calls Try.prog 17 #[.int .i64 c] w fun e w' => e = .returned (.int .i64 (span c)) ∧ w = w' := by
  rcases span_cases c with ⟨rfl, hs⟩ | ⟨rfl, hs⟩ | ⟨rfl, hs⟩ | ⟨rfl, hs⟩ | ⟨ho, hs⟩
  · rw [hs]
    clear hs
    go_enter Try.func17, Try.ntmps17
    go_wp2
    go_ret
    exact ⟨rfl, rfl⟩
  · rw [hs]
    clear hs
    go_enter Try.func17, Try.ntmps17
    go_wp2
    go_ret
    exact ⟨rfl, rfl⟩
  · rw [hs]
    clear hs
    go_enter Try.func17, Try.ntmps17
    go_wp2
    go_ret
    exact ⟨rfl, rfl⟩
  · rw [hs]
    clear hs
    go_enter Try.func17, Try.ntmps17
    go_wp2
    go_ret
    exact ⟨rfl, rfl⟩
  · rw [hs]
    clear hs
    by_cases hc : c < 0
    · clear ho
      go_enter Try.func17, Try.ntmps17
      go_wp2
      go_ret
      exact ⟨rfl, rfl⟩
    · have h3 : 3 < c := by omega
      clear ho
      go_enter Try.func17, Try.ntmps17
      go_wp2
      go_ret
      exact ⟨rfl, rfl⟩
theorem ref5_Span (c : Int) (w : World) :
    Calls Try.prog 44 #[.int .i64 c] w fun e w' => e = .returned (.int .i64 (span c)) ∧ w = w' := by
  rcases span_cases c with ⟨rfl, hs⟩ | ⟨rfl, hs⟩ | ⟨rfl, hs⟩ | ⟨rfl, hs⟩ | ⟨ho, hs⟩
  · rw [hs]
    clear hs
    go_enter Try.func44, Try.ntmps44
    go_wp2
    go_ret
    exact ⟨rfl, rfl⟩
  · rw [hs]
    clear hs
    go_enter Try.func44, Try.ntmps44
    go_wp2
    go_ret
    exact ⟨rfl, rfl⟩
  · rw [hs]
    clear hs
    go_enter Try.func44, Try.ntmps44
    go_wp2
    go_ret
    exact ⟨rfl, rfl⟩
  · rw [hs]
    clear hs
    go_enter Try.func44, Try.ntmps44
    go_wp2
    go_ret
    exact ⟨rfl, rfl⟩
  · rw [hs]
    have d0 : (c == 0) = false := by simp; omega
    have d1 : (c == 1) = false := by simp; omega
    have d2 : (c == 2) = false := by simp; omega
    have d3 : (c == 3) = false := by simp; omega
    clear hs ho
    go_enter Try.func44, Try.ntmps44
    go_wp2
    go_ret
    exact ⟨rfl, rfl⟩
def NoneBelow (n : Int) (k : Nat) : Prop := ∀ j : Nat, j < k → capOf j < n
theorem NoneBelow.succ {n : Int} {k : Nat} (h : NoneBelow n k) (h2 : capOf k < n) : NoneBelow n (k + 1) := fun j hj => by
  by_cases e : j = k
  · rw [e]; exact h2
  · exact h j (by omega)
end Go.Proofs.Ytpenmnngjfncgaa
