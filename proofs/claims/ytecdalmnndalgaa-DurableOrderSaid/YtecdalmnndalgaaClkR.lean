/- Law 9: lasting; a byte of a number. -/
import Derived.Test.YtecdalmnndalgaaClkQ
import Derived.Test.YtecdalmnndalgaaSorted
import Derived.Deep.RegionHeld3
namespace Go.Proofs.Ytecdalmnndalgaa
open Go.RowKit Go.Proofs.FuMem Go.Proofs.FuClk Go.Proofs.FuNvm Go.Proofs.FuGeom Go.Proofs.FuCode
set_option maxRecDepth 100000
theorem u8_of (y : Int) : ∃ x : UInt8, IntKind.u8.wrap y = (x.toNat : Int) := by
  refine ⟨UInt8.ofNat (y % 256).toNat, ?_⟩
  rw [IntKind.wrap_u8, UInt8.toNat_ofNat']
  omega
theorem isClock_zeros2 : isClock zeros = (0, false) := by
  decide +kernel
theorem those_line {p : Line → Bool} {L : List Line} {m : Nat} {z : Int} (h : z ∈ those p L m) : ∃ (i : Nat) (x : Line), z = i ∧ i < m ∧ L[i]? = some x ∧ p x = true := by
  unfold those at h
  rw [List.mem_map] at h
  obtain ⟨i, hi, rfl⟩ := h
  rw [List.mem_filter, List.mem_range] at hi
  obtain ⟨h1, h2⟩ := hi
  cases hx : L[i]? with
  | none => rw [hx] at h2; cases h2
  | some x => rw [hx] at h2; exact ⟨i, x, rfl, h1, hx, h2⟩
set_option maxHeartbeats 1000000 in
theorem law9_lasting (dg dcb cap : Nat) (D : Dev) (w : World) (hd : DevAt w dg dcb cap D) (h : ∀ i x, 2 ≤ i → D.lines[i]? = some x → x.now = x.kept) :
    Calls Try.prog 36 #[.pointer (some ⟨dg, 0, none⟩)] w fun e w' => e = .returned (.bool true) ∧ Only [] w w' := by
  have HLO := Lib.hid (nvm_Loose dg dcb cap D w hd)
  have hfew := hd.few
  have hle : ∀ z ∈ those (fun x => x.now != x.kept) D.lines D.lines.length, z ≤ 1 := by
    intro z hz
    obtain ⟨i, x, rfl, _, hx, hp⟩ := those_line hz
    by_cases h2 : 2 ≤ i
    · have := h i x h2 hx
      rw [this] at hp
      simp at hp
    · omega
  have hlen := those_length (fun x => x.now != x.kept) D.lines D.lines.length
  have HLE := Lib.hid hle
  generalize those (fun x => x.now != x.kept) D.lines D.lines.length = l at *
  have hl258 : l.length ≤ 258 := by omega
  clear h hle hd hfew hlen
  go_enter Try.func36, Try.ntmps36
  go_wp2_with fail
  refine HLO.out.mono ?_
  rintro e w1 ⟨v, rfl, m⟩
  obtain ⟨A, c, rfl, is, o1⟩ := madeI_is m
  have IS := Lib.hid is
  have O1 := Lib.hid o1
  clear m is o1
  obtain ⟨n, hn⟩ : ∃ n, n = l.length := ⟨_, rfl⟩
  rw [← hn] at IS hl258 ⊢
  have HN := Lib.hid hn
  clear hn
  go_wp2
  go_loopw [4] (fun iv wr => ∃ j : Nat, j ≤ n ∧ iv = .int .i64 j ∧ wr = w1) (fun iv _ => n - (intOf iv).toNat)
  case atStart => exact ⟨0, Nat.zero_le _, rfl, rfl⟩
  case round =>
    obtain ⟨j, hj, rfl, rfl⟩ := hrel
    by_cases hlt : j < n
    · obtain ⟨b, off, hA, hc⟩ := IS.out.at_ (by omega)
      have hcj := hc j (by rw [← HN.out]; exact hlt)
      subst hA
      have hz := HLE.out _ (List.getElem_mem (l := l) (n := j) (by rw [← HN.out]; exact hlt))
      generalize l[j]'(by rw [← HN.out]; exact hlt) = z at *
      have y1 : decide ((1 : Int) < z) = false := by rw [decide_eq_false_iff_not]; omega
      have y2 : (j : Int) < (n : Int) := by omega
      have y3 : decide ((j : Int) < (n : Int)) = true := by rw [decide_eq_true_eq]; omega
      clear hc
      go_wp2
      go_roundw
      case rel => exact ⟨j + 1, by omega, by go_num, trivial⟩
      case measure => simp [intOf]; omega
    · obtain rfl : j = n := by omega
      have y3 : decide ((j : Int) < (j : Int)) = false := by simp
      go_wp2
      go_ret
      exact ⟨rfl, O1.out⟩
end Go.Proofs.Ytecdalmnndalgaa
