/- Counters that are added to, read and set atomically. -/
import Derived.Test.YtfafpggppbolkaaProg
import Derived.Test.YtfafpggppbolkaaMemC
import Derived.WalkSpells
import Derived.WalkLawsBesides
import Derived.Laws.LoneSync
namespace Go.Proofs.Ytfafpggppbolkaa
open Go.RowKit Go.Proofs.FuMem
set_option maxRecDepth 100000

theorem int64_Add (g k : Nat) (x : Int) (w : World) (hc : w.cell? ⟨g, k, none⟩ = some (.int .i64 x)) (hf : w.frozen? ⟨g, k, none⟩ = false) :
    Calls Try.prog 64 #[.pointer (some ⟨g, k, none⟩), .int .i64 1] w fun e w' => e = .returned (.int .i64 (wrap64 (x + 1))) ∧ w.setCell ⟨g, k, none⟩ (.int .i64 (wrap64 (x + 1))) = w' := by
  have hadd := run_call_add (P := Try.prog) Try.func93 (by kernel_rfl) (by kernel_rfl) (by kernel_rfl) .i64 (by kernel_rfl) (y := 1) (s := wrap64 (x + 1)) hc hf (by simp [go_sem, wrap64_eq])
  go_enter Try.func64, Try.ntmps64
  go_wp2
  go_ret
  exact ⟨rfl, rfl⟩
theorem int64_Load (g k : Nat) (x : Int) (w : World) (hc : w.cell? ⟨g, k, none⟩ = some (.int .i64 x)) :
    Calls Try.prog 90 #[.pointer (some ⟨g, k, none⟩)] w fun e w' => e = .returned (.int .i64 x) ∧ w = w' := by
  have hl := run_call_load (P := Try.prog) Try.func100 (by kernel_rfl) (by kernel_rfl) (by kernel_rfl) .i64 (by kernel_rfl) hc
  go_enter Try.func90, Try.ntmps90
  go_wp2
  go_ret
  exact ⟨rfl, rfl⟩
theorem int64_Store (g k : Nat) (u : Value) (x : Int) (w : World) (hc : w.cell? ⟨g, k, none⟩ = some u) (hf : w.frozen? ⟨g, k, none⟩ = false) :
    Calls Try.prog 78 #[.pointer (some ⟨g, k, none⟩), .int .i64 x] w fun e w' => e = .returned (.tuple #[]) ∧ w.setCell ⟨g, k, none⟩ (.int .i64 x) = w' := by
  have hs := run_call_store (P := Try.prog) Try.func99 (by kernel_rfl) (by kernel_rfl) (by kernel_rfl) (by kernel_rfl) (k := .i64) (y := x) hc hf
  go_enter Try.func78, Try.ntmps78
  go_wp2
  go_end0
  exact ⟨rfl, rfl⟩
end Go.Proofs.Ytfafpggppbolkaa
