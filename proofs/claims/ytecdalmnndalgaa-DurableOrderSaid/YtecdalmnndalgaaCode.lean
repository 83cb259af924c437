/- The contracts of package code and of its reference. -/
import Derived.Test.YtecdalmnndalgaaLend
import Derived.Test.YtecdalmnndalgaaMemB
import Derived.Test.YtecdalmnndalgaaCodeP
import Derived.WalkSpells
namespace Go.Proofs.Ytecdalmnndalgaa
open Go.RowKit Go.Proofs.FuMem Go.Proofs.FuCode
set_option maxRecDepth 100000

theorem code_check (A : Option Addr) (n c : Nat) (at_ k : Int) (w : World) (hn : n ≤ maxLen) (h1 : -9223372036854775808 ≤ at_ ∧ at_ ≤ 9223372036854775807) (h2 : -9223372036854775808 ≤ k ∧ k ≤ 9223372036854775807) :
    Calls Try.prog 67 #[.slice A n c, .int .i64 at_, .int .i64 k] w fun e w' => e = .returned (.int .i64 (wrong n at_ k)) ∧ w = w' := by
  unfold maxLen at hn
  by_cases ha : k < 1 ∨ 8 < k
  · have hw : wrong n at_ k = 1 := by unfold wrong; rw [if_pos ha]
    have HW := Lib.hid hw
    clear hw
    by_cases hb : k < 1
    all_goals
      go_enter Try.func67, Try.ntmps67
      go_wp2
      go_ret
      exact ⟨ret_int (by rw [HW.out]; rfl), rfl⟩
  · have hk1 : 1 ≤ k := by omega
    have hk2 : k ≤ 8 := by omega
    by_cases hb : at_ < 0 ∨ (n : Int) - k < at_
    · have hw : wrong n at_ k = 2 := by unfold wrong; rw [if_neg ha, if_pos hb]
      have HW := Lib.hid hw
      clear hw ha
      by_cases hc : at_ < 0
      all_goals
        go_enter Try.func67, Try.ntmps67
        go_wp2
        go_ret
        exact ⟨ret_int (by rw [HW.out]; rfl), rfl⟩
    · have hw : wrong n at_ k = 0 := by unfold wrong; rw [if_neg ha, if_neg hb]
      have HW := Lib.hid hw
      have hc1 : 0 ≤ at_ := by omega
      have hc2 : at_ ≤ n - k := by omega
      clear hw ha hb
      go_enter Try.func67, Try.ntmps67
      go_wp2
      go_ret
      exact ⟨ret_int (by rw [HW.out]; rfl), rfl⟩
/-- what a function hands back that makes bytes of its own -/
def MadeB (w : World) (l : List UInt8) (v : Value) (w' : World) : Prop := ∃ A c, v = .slice A l.length c ∧ w'.ownsRow w.heap.size 5 1 v l.length (l.map B) ∧ Only [] w w'
theorem madeB_of {w w' : World} {g n c : Nat} {l : List UInt8} (h : OwnB 5 w' w.heap.size g n c l) (o : Only [] w w') : MadeB w l (.slice (some ⟨g, 0, none⟩) n c) w' := by
  have hl := h.len
  subst hl
  exact ⟨_, _, rfl, h, o⟩
theorem madeB_own {w w' : World} {A : Option Addr} {n c : Nat} {l : List UInt8} (hl : l.length = n) (h : w'.ownsRow w.heap.size 5 1 (.slice A n c) n (l.map B)) (o : Only [] w w') : MadeB w l (.slice A n c) w' := by
  subst hl
  exact ⟨_, _, rfl, h, o⟩
theorem own_empty (w : World) (e : TypeId) : (w.alloc (.cells #[] e)).ownsRow w.heap.size e 1 (.slice (some ⟨w.heap.size, 0, none⟩) 0 0) 0 [] :=
  ⟨rfl, .inr ⟨_, 0, #[], rfl, Nat.le_refl _, heap_alloc_new w _, Nat.le_refl _, Nat.zero_le _, rfl, rfl⟩⟩
theorem clone_bytes (A : Option Addr) (n c : Nat) (l : List UInt8) (w : World) (h : Bs w A n l) (hn : n ≤ 1000000) :
    Calls Try.prog 43 #[.slice A n c] w fun e w' => ∃ v, e = .returned v ∧ MadeB w l v w' := by
  obtain rfl | ⟨a, rfl⟩ : A = none ∨ ∃ a, A = some a := by cases A <;> simp
  · have hn0 : n = 0 := by
      rcases h.2 with h0 | ⟨b, off, e, _⟩
      · exact h0
      · cases e
    subst hn0
    obtain rfl : l = [] := List.eq_nil_of_length_eq_zero h.len
    have he := Lib.run_eql_slice_nil (P := Try.prog) w 48 5 none 0 c 0 0 Try.underlying48
    clear h
    go_enter Try.func43, Try.ntmps43
    go_wp2
    go_ret
    exact ⟨_, rfl, none, 0, rfl, own_nil _ _ _ _, Only.refl _ _⟩
  · obtain ⟨i0, hi, hz0, hz1, hz2⟩ := info_parts Try.byteInfo
    have on0 : Only [] w (w.alloc (.cells #[] 5)) := (Only.refl _ _).alloc _
    obtain ⟨A1, c1, w1, hr1, ho1, hs1, on1⟩ := append_own (P := Try.prog) (w.alloc (.cells #[] 5)) on0 48 48 5 i0 _ 1 Try.underlying48 hi hz0 hz1 hz2 rfl _ 0 [] (own_empty w _) (some a) n c _ (Sl.only0 h on0) one_B (by unfold maxLen; omega) (by omega)
    rw [Nat.zero_add, List.nil_append] at ho1
    rw [Nat.zero_add] at hr1
    have hl := h.len
    have H1 := Lib.hid ho1
    have H2 := Lib.hid on1
    have HL := Lib.hid hl
    clear h ho1 hs1 on1 on0 hl hi hz0 hz1 hz2
    have he := Lib.run_eql_slice_nil (P := Try.prog) w 48 5 (some a) n c 0 0 Try.underlying48
    go_enter Try.func43, Try.ntmps43
    go_wp2_with (at_builtin; refine wpList_append_run _ rfl (.tmp 5) (.tmp 6) 48 rfl _ _ rfl rfl _ _ hr1 ?_)
    go_ret
    exact ⟨.slice A1 n c1, rfl, A1, c1, by rw [HL.out], by rw [HL.out]; exact H1.out, H2.out⟩
end Go.Proofs.Ytecdalmnndalgaa
