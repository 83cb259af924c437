/- Counters that are added to, read and set atomically. -/
import Derived.Test.YtecdalmnndalgaaProg
import Derived.Test.YtecdalmnndalgaaMemC
import Derived.WalkSpells
import Derived.WalkLawsBesides
import Derived.Laws.LoneSync
namespace Go.Proofs.Ytecdalmnndalgaa
open Go.RowKit Go.Proofs.FuMem
set_option maxRecDepth 100000

theorem int64_Add (g k : Nat) (x : Int) (w : World) (hc : w.cell? ⟨g, k, none⟩ = some (.int .i64 x)) (hf : w.frozen? ⟨g, k, none⟩ = false) :
    Calls Try.prog 42 #[.pointer (some ⟨g, k, none⟩), .int .i64 1] w fun e w' => e = .returned (.int .i64 (wrap64 (x + 1))) ∧ w.setCell ⟨g, k, none⟩ (.int .i64 (wrap64 (x + 1))) = w' := by
  have hadd := run_call_add (P := Try.prog) Try.func66 (by kernel_rfl) (by kernel_rfl) (by kernel_rfl) .i64 (by kernel_rfl) (y := 1) (s := wrap64 (x + 1)) hc hf (by simp [go_sem, wrap64_eq])
  go_enter Try.func42, Try.ntmps42
  go_wp2
  go_ret
  exact ⟨rfl, rfl⟩
end Go.Proofs.Ytecdalmnndalgaa
