/- Law 6: BlockMay. -/
import Derived.Test.YtkhfcghnodggeaaBlockC
import Derived.Test.YtkhfcghnodggeaaBlockK
import Derived.Test.YtkhfcghnodggeaaBlockL
namespace Go.Proofs.Ytkhfcghnodggeaa
open Go.RowKit Go.Proofs.FuMem Go.Proofs.FuCode Go.Proofs.FuClass Go.Proofs.FuBlock Go.Proofs.FuEq Go.Proofs.FuCrc
set_option maxRecDepth 100000
theorem law6_awake (w : World) : Calls Try.prog 14 #[] w fun e w' => e = .returned (.bool true) ∧ Only [] w w' :=
  law6_awake_of (fun A n c l w h hn hc => block_Decode A n c l w h hn hc) w
set_option maxHeartbeats 1000000 in
theorem law6_BlockMay (cls kind : Int) (id ver ep : Nat) (ks vs : ByteArray) (w : World) (hc : -9223372036854775808 ≤ cls ∧ cls ≤ 9223372036854775807) (hi : id < 18446744073709551616) (hv : ver < 18446744073709551616) (he : ep < 18446744073709551616) :
    Calls Try.prog 3 #[blockV cls kind id ver ep ks vs] w fun e w' => e = .returned (.bool true) ∧ Only [] w w' := by
  have O1 := Lib.hid (show Only [] w (w.alloc (.cells #[.int .i64 cls, .int .i64 kind, .int .u64 id, .int .u64 ver, .int .u64 ep, .string ks, .string vs] 24)) from (Only.refl _ _).alloc _)
  have BX := Lib.hid (Blk.new w 24 #[.int .i64 cls, .int .i64 kind, .int .u64 id, .int .u64 ver, .int .u64 ep, .string ks, .string vs])
  have HLO := Lib.hid (fun w => law6_long cls kind id ver ep ks vs w)
  by_cases hl : longB ks vs = true
  · rw [hl] at HLO
    clear hl
    go_enter Try.func3, Try.ntmps3
    go_wp2
    generalize w.heap.size = g at BX ⊢
    generalize w.alloc (.cells #[.int .i64 cls, .int .i64 kind, .int .u64 id, .int .u64 ver, .int .u64 ep, .string ks, .string vs] 24) = w1 at BX O1 ⊢
    refine wp_region_later w1 (by kernel_rfl) (by kernel_rfl) ?_
    refine later_load_struct rfl (.tmp 1) rfl g rfl cls kind id ver ep ks vs BX.out ?_
    repeat (quiet_step (fail))
    quiet_step (exact Calls.later (HLO.out _))
    repeat (quiet_step (fail))
    refine wpQuiet_nil ?_
    intro _ hw'
    obtain ⟨p, hw''⟩ := hw'
    subst hw''
    have HP := Lib.hid (O1.out.trans0 p.only)
    go_wp2
    go_ret
    exact ⟨rfl, HP.out⟩
  · have hl2 : longB ks vs = false := by simpa using hl
    have hks : ks.size ≤ 1000000 := by unfold longB at hl2; simp at hl2; omega
    have hvs : vs.size ≤ 1000000 := by unfold longB at hl2; simp at hl2; omega
    have HM := Lib.hid (fun w => block_May cls kind id ver ep ks vs w hc hi hv he hks hvs)
    have HR := Lib.hid (fun w => ref6_May cls kind id ver ep ks vs w hi hv he hks hvs)
    rw [hl2] at HLO
    clear hl hl2 hks hvs
    generalize may (mkB cls kind id ver ep ks vs) = m at *
    have hmm : (m == m) = true := by simp
    go_enter Try.func3, Try.ntmps3
    go_wp2
    generalize w.heap.size = g at BX ⊢
    generalize w.alloc (.cells #[.int .i64 cls, .int .i64 kind, .int .u64 id, .int .u64 ver, .int .u64 ep, .string ks, .string vs] 24) = w1 at BX O1 ⊢
    refine wp_region_later w1 (by kernel_rfl) (by kernel_rfl) ?_
    refine later_load_struct rfl (.tmp 1) rfl g rfl cls kind id ver ep ks vs BX.out ?_
    repeat (quiet_step (fail))
    quiet_step (exact Calls.later (HLO.out _))
    quiet_step (fail)
    refine later_load_struct rfl (.tmp 1) rfl g rfl cls kind id ver ep ks vs BX.out ?_
    repeat (quiet_step (fail))
    quiet_step (exact Calls.later (HM.out _))
    refine later_load_struct rfl (.tmp 1) rfl g rfl cls kind id ver ep ks vs BX.out ?_
    repeat (quiet_step (fail))
    quiet_step (exact Calls.later (HR.out _))
    repeat (quiet_step (fail))
    quiet_step (exact Calls.later (law6_awake _))
    repeat (quiet_step (fail))
    refine wpQuiet_nil ?_
    intro _ hw'
    obtain ⟨p, hw''⟩ := hw'
    subst hw''
    have HP := Lib.hid (O1.out.trans0 p.only)
    go_wp2
    go_ret
    exact ⟨rfl, HP.out⟩
theorem walk_BlockMay (x : Int × Int × Nat × Nat × Nat × ByteArray × ByteArray) (w : World) (h : (-9223372036854775808 ≤ x.1 ∧ x.1 ≤ 9223372036854775807) ∧ x.2.2.1 < 18446744073709551616 ∧ x.2.2.2.1 < 18446744073709551616 ∧ x.2.2.2.2.1 < 18446744073709551616) :
    Calls Try.prog 3 #[blockV x.1 x.2.1 x.2.2.1 x.2.2.2.1 x.2.2.2.2.1 x.2.2.2.2.2.1 x.2.2.2.2.2.2] w fun e w' => e = .returned (.bool true) ∧ Only [] w w' :=
  law6_BlockMay _ _ _ _ _ _ _ w h.1 h.2.1 h.2.2.1 h.2.2.2
end Go.Proofs.Ytkhfcghnodggeaa
