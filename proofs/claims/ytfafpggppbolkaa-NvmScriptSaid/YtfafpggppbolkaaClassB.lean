/- The contracts of class.Starts, class.Home and of their references; slices.Index, slices.Contains on ints. -/
import Derived.Test.YtfafpggppbolkaaClass
namespace Go.Proofs.Ytfafpggppbolkaa
open Go.RowKit Go.Proofs.FuMem Go.Proofs.FuClass
set_option maxRecDepth 100000

theorem geom_Slab (k : Int) (w : World) :
    Calls Try.prog 40 #[.int .i64 k] w fun e w' => e = .returned (.int .i64 (slab k)) ∧ w = w' := by
  by_cases h1 : k < 0
  · rw [show slab k = -1 from if_pos (.inl h1)]
    go_enter Try.func40, Try.ntmps40
    go_wp2
    go_ret
    exact ⟨rfl, rfl⟩
  · by_cases h2 : 31 < k
    · rw [show slab k = -1 from if_pos (.inr h2)]
      have h3 : 32 ≤ k := by omega
      clear h2
      go_enter Try.func40, Try.ntmps40
      go_wp2
      go_ret
      exact ⟨rfl, rfl⟩
    · rw [show slab k = 2 + 8 * k from if_neg (by omega)]
      have h3 : k < 32 := by omega
      clear h2
      go_enter Try.func40, Try.ntmps40
      go_wp2
      go_ret
      exact ⟨ret_int (by omega), rfl⟩
theorem ref4_Slab (k : Int) (w : World) :
    Calls Try.prog 41 #[.int .i64 k] w fun e w' => e = .returned (.int .i64 (slab k)) ∧ w = w' := by
  by_cases h1 : k < 0
  · rw [show slab k = -1 from if_pos (.inl h1)]
    go_enter Try.func41, Try.ntmps41
    go_wp2
    go_ret
    exact ⟨rfl, rfl⟩
  · by_cases h2 : 31 < k
    · rw [show slab k = -1 from if_pos (.inr h2)]
      go_enter Try.func41, Try.ntmps41
      go_wp2
      go_ret
      exact ⟨rfl, rfl⟩
    · rw [show slab k = 2 + 8 * k from if_neg (by omega)]
      go_enter Try.func41, Try.ntmps41
      go_wp2
      go_ret
      exact ⟨ret_int (by omega), rfl⟩
theorem geom_SlabOf (k : Int) (w : World) :
    Calls Try.prog 42 #[.int .i64 k] w fun e w' => e = .returned (.int .i64 (slabOf k)) ∧ w = w' := by
  by_cases h1 : k < 2
  · rw [show slabOf k = -1 from if_pos (.inl h1)]
    go_enter Try.func42, Try.ntmps42
    go_wp2
    go_ret
    exact ⟨rfl, rfl⟩
  · by_cases h2 : 258 ≤ k
    · rw [show slabOf k = -1 from if_pos (.inr h2)]
      go_enter Try.func42, Try.ntmps42
      go_wp2
      go_ret
      exact ⟨rfl, rfl⟩
    · rw [show slabOf k = (k - 2) / 8 from if_neg (by omega)]
      go_enter Try.func42, Try.ntmps42
      go_wp2
      go_ret
      exact ⟨ret_int (by omega), rfl⟩
theorem ref4_SlabOf (k : Int) (w : World) :
    Calls Try.prog 43 #[.int .i64 k] w fun e w' => e = .returned (.int .i64 (slabOf k)) ∧ w = w' := by
  by_cases h1 : k < 2
  · rw [show slabOf k = -1 from if_pos (.inl h1)]
    go_enter Try.func43, Try.ntmps43
    go_wp2
    go_ret
    exact ⟨rfl, rfl⟩
  · by_cases h2 : 258 ≤ k
    · rw [show slabOf k = -1 from if_pos (.inr h2)]
      go_enter Try.func43, Try.ntmps43
      go_wp2
      go_ret
      exact ⟨rfl, rfl⟩
    · rw [show slabOf k = (k - 2) / 8 from if_neg (by omega)]
      go_enter Try.func43, Try.ntmps43
      go_wp2
      go_ret
      exact ⟨ret_int (by omega), rfl⟩
theorem index_ints (A : Option Addr) (n c : Nat) (l : List Int) (v : Int) (w : World) (h : Is w A n l) (hn : n ≤ 1000000) :
    Calls Try.prog 97 #[.slice A n c, .int .i64 v] w fun e w' => e = .returned (.int .i64 (idx l v)) ∧ w = w' := by
  have hl := h.len
  have HL := Lib.hid hl
  have HX := Lib.hid h
  clear h hl
  go_enter Try.func97, Try.ntmps97
  go_wp2
  go_loop [5, 8] (fun _ i => ∃ k : Nat, k ≤ n ∧ i = .int .i64 k ∧ ∀ j, j < k → ∀ x, l[j]? = some x → x ≠ v) (fun _ i => n - (intOf i).toNat)
  case atStart => exact ⟨0, Nat.zero_le _, rfl, fun j hj => by omega⟩
  case round =>
    obtain ⟨k, hk, rfl, hno⟩ := hrel
    have HN := Lib.hid hno
    clear hno
    by_cases hlt : k < n
    · obtain ⟨b, f, rfl, hc⟩ := HX.out.at_ (by omega)
      have hkl : k < l.length := by rw [HL.out]; exact hlt
      have hc1 := hc k hkl
      clear hc
      obtain ⟨x, hx⟩ : ∃ x, l[k]? = some x := ⟨_, List.getElem?_eq_getElem hkl⟩
      have hxe : l[k] = x := by
        rw [List.getElem?_eq_getElem hkl] at hx
        exact Option.some.inj hx
      rw [hxe] at hc1
      by_cases hv : x = v
      · subst hv
        have HI := Lib.hid (idx_some hkl hxe (fun j hj => HN.out j hj _ (List.getElem?_eq_getElem (by omega))))
        clear hxe hx
        go_wp2
        go_ret
        exact ⟨ret_int HI.out.symm, rfl⟩
      · have d1 : (v == x) = false := by rw [beq_eq_false_iff_ne]; exact fun e => hv e.symm
        have HV := Lib.hid hv
        have HX1 := Lib.hid hx
        clear hv hxe hx
        go_wp2
        go_round
        case rel =>
          refine ⟨k + 1, by omega, by go_num, fun j hj y hy => ?_⟩
          by_cases e : j = k
          · rw [e, HX1.out] at hy
            rw [← Option.some.inj hy]
            exact HV.out
          · exact HN.out j (by omega) y hy
        case measure => simp [intOf]; omega
    · obtain rfl : k = n := by omega
      have hm : v ∉ l := by
        intro hm
        obtain ⟨j, hj, he⟩ := List.getElem_of_mem hm
        exact HN.out j (by rw [← HL.out]; exact hj) _ (List.getElem?_eq_getElem hj) he
      have HI := Lib.hid (idx_none hm)
      clear hm
      go_wp2
      go_ret
      exact ⟨ret_int HI.out.symm, rfl⟩
theorem contains_ints (A : Option Addr) (n c : Nat) (l : List Int) (v : Int) (w : World) (h : Is w A n l) (hn : n ≤ 1000000) :
    Calls Try.prog 72 #[.slice A n c, .int .i64 v] w fun e w' => e = .returned (.bool (decide (v ∈ l))) ∧ w = w' := by
  have HI := Lib.hid (index_ints A n c l v w h hn)
  have HE := Lib.hid (idx_nonneg l v)
  generalize idx l v = x at *
  clear h
  go_enter Try.func72, Try.ntmps72
  go_wp2_with fail
  refine (HI.out).mono ?_
  rintro e w' ⟨rfl, rfl⟩
  go_wp2
  go_ret
  exact ⟨ret_bool HE.out, rfl⟩
theorem starts_next (f : Int) (s i : Nat) (x : Int) (hx : x = f + ((i * s : Nat) : Int)) : (startsTo f s i).map (Value.int .i64) ++ [.int .i64 x] = (startsTo f s (i + 1)).map (.int .i64) := by
  rw [startsTo_succ, List.map_append, hx]
  rfl
end Go.Proofs.Ytfafpggppbolkaa
