/- Law 3: are acts more than is gone through; a device behind some acts. -/
import Derived.Test.YtfafpggppbolkaaPlay
set_option maxRecDepth 100000
namespace Go.Proofs.Ytfafpggppbolkaa
open Go.RowKit Go.Proofs.FuMem Go.Proofs.FuNvm Go.Proofs.FuCode
abbrev Big (x : Deed × Holds) : Prop := 100 < x.2.bn ∨ 100 < x.2.kn
def isLarge (xs : List (Deed × Holds)) : Bool := decide (80 < xs.length ∨ ∃ x ∈ xs, Big x)
set_option maxHeartbeats 1000000 in
theorem law3_large (A : Option Addr) (n c : Nat) (xs : List (Deed × Holds)) (w : World) (h : Deeds w A n xs) :
    Calls Try.prog 16 #[.slice A n c] w fun e w' => e = .returned (.bool (isLarge xs)) ∧ w = w' := by
  obtain ⟨hl, hm, hok, hr⟩ := h
  unfold maxLen at hm
  by_cases h80 : 80 < n
  · have hlg : isLarge xs = true := by unfold isLarge; rw [decide_eq_true_eq]; exact .inl (by omega)
    rw [hlg]
    have hh : decide ((80 : Int) < (n : Int)) = true := by go_num
    go_enter Try.func16, Try.ntmps16
    go_wp2
    go_ret
    exact ⟨rfl, rfl⟩
  · have hh : decide ((80 : Int) < (n : Int)) = false := by go_num
    have HOK := Lib.hid hok
    have HR := Lib.hid hr
    have HL := Lib.hid hl
    clear hok hr hl
    go_enter Try.func16, Try.ntmps16
    go_wp2
    go_loopw [3] (fun i wr => ∃ (k : Nat), k ≤ n ∧ i = .int .i64 k ∧ (∀ x ∈ xs.take k, ¬ Big x) ∧ w = wr) (fun i _ => n - (intOf i).toNat)
    case atStart => exact ⟨0, Nat.zero_le _, rfl, by simp, rfl⟩
    case round =>
      obtain ⟨k, hk, rfl, hno, rfl⟩ := hrel
      by_cases hlt : k < n
      · rcases HR.out with h0 | ⟨b, off, rfl, hrng⟩
        · omega
        have hxk : xs[k]? = some (xs[k]'(by rw [HL.out]; exact hlt)) := List.getElem?_eq_getElem _
        have hmem : xs[k]'(by rw [HL.out]; exact hlt) ∈ xs := List.getElem_mem _
        have htk : xs.take (k + 1) = xs.take k ++ [xs[k]'(by rw [HL.out]; exact hlt)] := by rw [List.take_add_one, hxk]; rfl
        have HTK := Lib.hid htk
        have HMEM := Lib.hid hmem
        have hrg := hrng k _ hxk
        have hok := HOK.out _ hmem
        clear hrng htk
        generalize xs[k]'(by rw [HL.out]; exact hlt) = x at *
        obtain ⟨x, s⟩ := x
        obtain ⟨bA, bn, bc, kA, kn, kc⟩ := s
        have e3 : w.cell? ⟨b, off + k * 5 + 3, none⟩ = some (.slice bA bn bc) := hrg 3 _ rfl
        have e4 : w.cell? ⟨b, off + k * 5 + 4, none⟩ = some (.slice kA kn kc) := hrg 4 _ rfl
        have HNO := Lib.hid hno
        have m1 : bn ≤ 9223372036854775807 := by have := hok.m1; unfold maxLen at this; simp only at this; omega
        have m2 : kn ≤ 9223372036854775807 := by have := hok.m2; unfold maxLen at this; simp only at this; omega
        clear hok hrg hxk hno hmem
        by_cases hb1 : 100 < bn
        · have hlg : isLarge xs = true := by unfold isLarge; rw [decide_eq_true_eq]; exact .inr ⟨_, HMEM.out, .inl hb1⟩
          have hq : decide ((100 : Int) < (bn : Int)) = true := by go_num
          have HLG := Lib.hid hlg
          clear hlg
          go_wp2
          go_ret
          exact ⟨by rw [HLG.out]; rfl, rfl⟩
        · have hq : decide ((100 : Int) < (bn : Int)) = false := by go_num
          by_cases hb2 : 100 < kn
          · have hlg : isLarge xs = true := by unfold isLarge; rw [decide_eq_true_eq]; exact .inr ⟨_, HMEM.out, .inr hb2⟩
            have hq2 : decide ((100 : Int) < (kn : Int)) = true := by go_num
            have HLG := Lib.hid hlg
            clear hlg
            go_wp2
            go_ret
            exact ⟨by rw [HLG.out]; rfl, rfl⟩
          · have hq2 : decide ((100 : Int) < (kn : Int)) = false := by go_num
            go_wp2
            go_roundw
            case rel =>
              refine ⟨k + 1, by omega, by go_num, ?_, by trivial⟩
              rw [HTK.out]
              intro y hy
              rcases List.mem_append.1 hy with hy | hy
              · exact HNO.out y hy
              · rw [List.mem_singleton] at hy
                subst hy
                unfold Big
                simp only
                omega
            case measure => simp [intOf]; omega
      · obtain rfl : k = n := by omega
        have hlg : isLarge xs = false := by
          unfold isLarge
          rw [decide_eq_false_iff_not]
          rintro (h | ⟨x, hx, hb⟩)
          · have := HL.out; omega
          · exact hno x (by rw [List.take_of_length_le (by rw [HL.out]; exact Nat.le_refl _)]; exact hx) hb
        have HLG := Lib.hid hlg
        clear hlg hno
        go_wp2
        go_ret
        exact ⟨by rw [HLG.out]; rfl, rfl⟩
theorem large_no {xs : List (Deed × Holds)} (h : isLarge xs = false) : xs.length ≤ 80 ∧ ∀ x ∈ xs, x.2.bn ≤ 100 ∧ x.2.kn ≤ 100 := by
  unfold isLarge at h
  rw [decide_eq_false_iff_not] at h
  refine ⟨by omega, fun x hx => ?_⟩
  have : ¬ Big x := fun hb => h (.inr ⟨x, hx, hb⟩)
  unfold Big at this
  omega
def playAll (D : Dev) (xs : List (Deed × Holds)) : Dev := xs.foldl (fun D x => playD D x.1) D
theorem playAll_take {D : Dev} {xs : List (Deed × Holds)} {k : Nat} {x : Deed × Holds} (h : xs[k]? = some x) : playAll D (xs.take (k + 1)) = playD (playAll D (xs.take k)) x.1 := by
  unfold playAll
  rw [List.take_add_one, h]
  simp
set_option maxHeartbeats 1000000 in
theorem law3_some (A : Option Addr) (n c : Nat) (xs : List (Deed × Holds)) (w : World) (h : Deeds w A n xs) (hsm : ∀ x ∈ xs, x.2.bn ≤ 100 ∧ x.2.kn ≤ 100) :
    Calls Try.prog 19 #[.slice A n c] w fun e w' => ∃ g cb, e = .returned (.pointer (some ⟨g, 0, none⟩)) ∧ DevAt w' g cb 8 (playAll (newDev 8) xs) ∧ Only [] w w' ∧ w.heap.size ≤ g ∧ w.heap.size ≤ cb := by
  obtain ⟨hl, hm, hok, hr⟩ := h
  unfold maxLen at hm
  have HOK := Lib.hid hok
  have HR := Lib.hid hr
  have HL := Lib.hid hl
  have HSM := Lib.hid hsm
  clear hok hr hl hsm
  go_enter Try.func19, Try.ntmps19
  go_wp2_with fail
  refine (nvm_New 8 _ (by omega) (by omega)).mono ?_
  rintro e w1 ⟨g, cb, rfl, d1, o1, f1, f2⟩
  have D1 := Lib.hid d1
  have O1 := Lib.hid o1
  clear d1 o1
  go_wp2
  go_loopw [5] (fun i wr => ∃ (k : Nat), k ≤ n ∧ i = .int .i64 k ∧ DevAt wr g cb 8 (playAll (newDev 8) (xs.take k)) ∧ Only [] w wr) (fun i _ => n - (intOf i).toNat)
  case atStart => exact ⟨0, Nat.zero_le _, rfl, D1.out, O1.out⟩
  case round =>
    obtain ⟨k, hk, rfl, hd, on⟩ := hrel
    by_cases hlt : k < n
    · rcases HR.out with h0 | ⟨b, off, rfl, hrng⟩
      · omega
      have hxk : xs[k]? = some (xs[k]'(by rw [HL.out]; exact hlt)) := List.getElem?_eq_getElem _
      have hmem : xs[k]'(by rw [HL.out]; exact hlt) ∈ xs := List.getElem_mem _
      have HTK := Lib.hid (playAll_take (D := newDev 8) hxk)
      have hrg := hrng k _ hxk
      have hok := HOK.out _ hmem
      have hsk := (HSM.out _ hmem).2
      clear hrng hmem hxk
      generalize xs[k]'(by rw [HL.out]; exact hlt) = x at *
      obtain ⟨x, s⟩ := x
      have hrw : wr.rangeAt b (off + k * 5) (deedV x s) := fun j v hv => by
        have hc := hrg j v hv
        rw [cell_only on (lt_of_cell hc) (by simp)]
        exact hc
      have HP := Lib.hid (law3_play g cb 8 _ x s w wr hok on f1 f2 hd (by simp only at hsk; omega))
      have ON := Lib.hid on
      clear hok hrg hd on hsk
      go_wp2_with ((with_reducible show wpList _ _ _ (Oper.mk (some 26) _ _ _ _ _ :: _) _ _); refine wpList_load_mid rfl 36 (.tmp 25) rfl b (off + k * 5) rfl (deedV x s) _ hrw Try.underlying36 rfl (by kernel_rfl) ?_)
      refine HP.out.mono ?_
      rintro e w2 ⟨rfl, d2, o2⟩
      have D2 := Lib.hid d2
      have O2 := Lib.hid (ON.out.trans o2 (by intro b hb; simp at hb; rcases hb with rfl | rfl <;> omega))
      clear d2 o2
      go_wp2
      go_roundw
      case rel => exact ⟨k + 1, by omega, by go_num, by rw [HTK.out]; exact D2.out, O2.out⟩
      case measure => simp [intOf]; omega
    · obtain rfl : k = n := by omega
      rw [List.take_of_length_le (by rw [HL.out]; exact Nat.le_refl _)] at hd
      have HD := Lib.hid hd
      have ON := Lib.hid on
      clear hd on
      go_wp2
      go_ret
      exact ⟨g, cb, rfl, HD.out, ON.out, f1, f2⟩
end Go.Proofs.Ytfafpggppbolkaa
