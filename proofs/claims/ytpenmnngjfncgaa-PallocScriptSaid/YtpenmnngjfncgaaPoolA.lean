/- The contracts of palloc: all, take, free. -/
import Derived.Test.YtpenmnngjfncgaaPoolM
import Derived.Test.YtpenmnngjfncgaaClass
namespace Go.Proofs.Ytpenmnngjfncgaa
open Go.RowKit Go.Proofs.FuMem Go.Proofs.FuClass Go.Proofs.FuPool
set_option maxRecDepth 100000
abbrev PoolAt (w : World) (g sb : Nat) (P : Pool) : Prop := IsPool 70 63 w g sb P
theorem pool_all (g sb : Nat) (P : Pool) (w : World) (h : PoolAt w g sb P) :
    Calls Try.prog 35 #[.pointer (some ⟨g, 0, none⟩)] w fun e w' => e = .returned (.slice (some ⟨sb, 0, none⟩) P.length P.length) ∧ w = w' := by
  have x0 := h.headCell
  clear h
  go_enter Try.func35, Try.ntmps35
  go_wp2
  go_ret
  exact ⟨rfl, rfl⟩
theorem pool_all_nil (w : World) :
    Calls Try.prog 35 #[.pointer none] w fun e w' => e = .returned (.slice none 0 0) ∧ w = w' := by
  go_enter Try.func35, Try.ntmps35
  go_wp2
  go_ret
  exact ⟨rfl, rfl⟩
theorem take_cells {s : Slab} (hl : s.taken.length = 8) (c : Int) {k : Nat} (hk : k < 8) (hf : s.at k = false) : ((cellsOf s).set 0 (.int .i64 c) |>.set (1 + k) (.bool true) |>.set 9 (.int .i64 ((s.n : Int) + 1))) = cellsOf (s.take c k) := by
  have hn : (s.take c k).n = s.n + 1 := count_set_true (taken_false hl hk hf)
  unfold cellsOf
  rw [hn, show 1 + k = k + 1 by omega]
  show (Value.int .i64 c) :: (((s.taken.map Value.bool ++ [Value.int .i64 s.n]).set k (.bool true)).set 8 (Value.int .i64 ((s.n : Int) + 1))) = _
  rw [List.set_append_left _ _ (by simp; omega), List.set_append_right _ _ (by simp; omega)]
  simp [hl, Slab.take, List.map_set]
theorem slab_take (g sb : Nat) (P : Pool) (i k : Nat) (c : Int) (s : Slab) (w : World) (h : PoolAt w g sb P) (hs : P[i]? = some s) (hk : k < 8) (hf : s.at k = false) :
    Calls Try.prog 39 #[.pointer (some ⟨sb, i * 10, none⟩), .int .i64 c, .int .i64 k] w fun e w' => e = .returned (.tuple #[]) ∧ PoolAt w' g sb (P.modify i fun s => s.take c k) ∧ Only [sb] w w' := by
  have hl := h.len s (List.mem_of_getElem? hs)
  have x0 := h.cls hs
  have x1 := h.mark hs hk
  have x9 := h.cnt hs
  have f0 := h.frozen (i * 10)
  have f1 := h.frozen (i * 10 + 1 + k)
  have f9 := h.frozen (i * 10 + 9)
  have hnn := n_le hl
  have HT := Lib.hid (h.turn3 hs (o1 := 0) (o2 := 1 + k) (o3 := 9) (by omega) (by omega) (by omega) (.int .i64 c) (.bool true) (.int .i64 ((s.n : Int) + 1)) (f := fun s => s.take c k) (take_cells hl c hk hf) (by simpa [Slab.take] using hl))
  rw [Nat.add_zero, ← Nat.add_assoc] at HT
  have y1 : (0 : Int) ≤ (k : Int) := by omega
  have y2 : (k : Int) < 8 := by omega
  generalize s.n = m at *
  generalize s.at k = b at *
  have ne1 : ¬ i * 10 = i * 10 + 1 + k := by omega
  have ne2 : ¬ i * 10 = i * 10 + 9 := by omega
  have ne3 : ¬ i * 10 + 1 + k = i * 10 + 9 := by omega
  clear h hs hl hf
  go_enter Try.func39, Try.ntmps39
  go_wp2
  go_end0
  exact ⟨rfl, HT.out⟩
def freeI (s : Slab) : Int := match s.free with | some k => (k : Int) | none => -1
theorem slab_free (g sb : Nat) (P : Pool) (i : Nat) (s : Slab) (w : World) (h : PoolAt w g sb P) (hs : P[i]? = some s) (hc : 0 ≤ s.cls ∧ s.cls ≤ 3) :
    Calls Try.prog 55 #[.pointer (some ⟨sb, i * 10, none⟩)] w fun e w' => e = .returned (.int .i64 (freeI s)) ∧ w = w' := by
  have x0 := h.cls hs
  have HM := Lib.hid (fun k (hk : k < 8) => h.mark hs hk)
  have HC := Lib.hid (fun w => class_Span s.cls w (by omega))
  have hm := many_span hc
  have hq0 : (8 : Int) / ((span s.cls : Nat) : Int) = ((many s.cls : Nat) : Int) := by unfold many; simp
  have HQ := Lib.hid hq0
  have HFS := Lib.hid (fun k (h1 : k < many s.cls) (h2 : s.at k = false) (h3 : ∀ j, j < k → s.at j = true) => show freeI s = (k : Int) by
    unfold freeI Slab.free
    rw [show (List.range (many s.cls)).find? (fun k => !s.at k) = some k from by
      rw [List.find?_range_eq_some]
      exact ⟨by simpa using h2, List.mem_range.2 h1, fun j hj => by simpa using h3 j hj⟩])
  have HFN := Lib.hid (fun (h3 : ∀ j, j < many s.cls → s.at j = true) => show freeI s = -1 by
    unfold freeI Slab.free
    rw [show (List.range (many s.cls)).find? (fun k => !s.at k) = none from by
      rw [List.find?_eq_none]
      intro x hx
      simpa using h3 x (List.mem_range.1 hx)])
  have d0 : ((span s.cls : Int) == 0) = false := by simp; omega
  have d1 : ¬ (span s.cls : Int) = 0 := by omega
  generalize s.cls = cl at *
  generalize many cl = m at *
  generalize span cl = sp at *
  clear h hs hq0 hc
  go_enter Try.func55, Try.ntmps55
  go_wp2_with fail
  refine (HC.out _).mono ?_
  rintro e w' ⟨rfl, rfl⟩
  go_wp2
  rw [HQ.out]
  go_loop [3, 10] (fun _ kv => ∃ j : Nat, j ≤ m ∧ kv = .int .i64 j ∧ ∀ k, k < j → s.at k = true) (fun _ kv => m - (intOf kv).toNat)
  case atStart => exact ⟨0, by omega, rfl, fun k hk => by omega⟩
  case round =>
    obtain ⟨j, hj, rfl, hall⟩ := hrel
    have HALL := Lib.hid hall
    clear hall
    by_cases hlt : j < m
    · have y1 : (0 : Int) ≤ (j : Int) := by omega
      have y2 : (j : Int) < 8 := by omega
      have y3 : decide ((j : Int) < (m : Int)) = true := by rw [decide_eq_true_eq]; omega
      have xm := HM.out j (by omega)
      by_cases ht : s.at j = true
      · rw [ht] at xm
        go_wp2
        go_round
        · exact ⟨j + 1, by omega, by simp, fun k hk => by
            by_cases e : k = j
            · rw [e]; exact ht
            · exact HALL.out k (by omega)⟩
        · simp [intOf]
          omega
      · have hf : s.at j = false := by simpa using ht
        rw [hf] at xm
        have HR := Lib.hid (HFS.out j hlt hf HALL.out)
        clear ht hf
        go_wp2
        go_ret
        exact ⟨by rw [HR.out]; rfl, rfl⟩
    · obtain rfl : j = m := by omega
      have y3 : decide ((j : Int) < (j : Int)) = false := by simp
      have HR := Lib.hid (HFN.out HALL.out)
      go_wp2
      go_ret
      exact ⟨by rw [HR.out]; rfl, rfl⟩
def findV (P : Pool) (c : Int) : Value := match find P c with | some (i, k) => .tuple #[.int .i64 i, .int .i64 k, .bool true] | none => .tuple #[.int .i64 0, .int .i64 0, .bool false]
theorem findSome_range {α : Type} (f : Nat → Option α) {n j : Nat} {x : α} (hj : j < n) (h0 : ∀ i, i < j → f i = none) (hx : f j = some x) : (List.range n).findSome? f = some x := by
  obtain ⟨m, rfl⟩ : ∃ m, n = j + (m + 1) := ⟨n - j - 1, by omega⟩
  rw [List.range_add, List.findSome?_append]
  have e1 : (List.range j).findSome? f = none := by
    rw [List.findSome?_eq_none_iff]
    intro y hy
    exact h0 y (List.mem_range.1 hy)
  rw [e1, List.range_succ_eq_map]
  simp [hx]
theorem pool_find (g sb : Nat) (P : Pool) (c : Int) (w : World) (h : PoolAt w g sb P) (hc : 0 ≤ c ∧ c ≤ 3) :
    Calls Try.prog 38 #[.pointer (some ⟨g, 0, none⟩), .int .i64 c] w fun e w' => e = .returned (findV P c) ∧ w = w' := by
  have HA := Lib.hid (pool_all g sb P w h)
  have x0 := h.headCell
  have HK := Lib.hid (fun i s (hs : P[i]? = some s) => h.cls hs)
  have HF := Lib.hid (fun i s (hs : P[i]? = some s) (hcc : 0 ≤ s.cls ∧ s.cls ≤ 3) => slab_free g sb P i s w h hs hcc)
  have HIN := Lib.hid (fun (i k : Nat) (hi : i < P.length) (h0 : ∀ j, j < i → (P[j]?).bind (room? c) = none) (hx : (P[i]?).bind (room? c) = some k) => show findV P c = .tuple #[.int .i64 i, .int .i64 k, .bool true] by
    have e : findIn P c = some (i, k) := findSome_range _ hi (fun j hj => by simp only [h0 j hj]; rfl) (by simp only [hx]; rfl)
    unfold findV find
    rw [e]
    rfl)
  have HNO := Lib.hid (fun (h0 : ∀ j, j < P.length → (P[j]?).bind (room? c) = none) => show findIn P c = none by
    unfold findIn
    rw [List.findSome?_eq_none_iff]
    intro j hj
    simp only [h0 j (List.mem_range.1 hj)]
    rfl)
  have HWH := Lib.hid (fun (i : Nat) (hn : findIn P c = none) (hi : i < P.length) (h0 : ∀ j, j < i → (P[j]?).map Slab.cls ≠ some (-1)) (hx : (P[i]?).map Slab.cls = some (-1)) => show findV P c = .tuple #[.int .i64 i, .int .i64 0, .bool true] by
    have e : findWhole P = some i := by
      unfold findWhole
      rw [List.find?_range_eq_some]
      exact ⟨by simpa using hx, List.mem_range.2 hi, fun j hj => by simpa using h0 j hj⟩
    unfold findV find
    rw [hn, e]
    rfl)
  have HNN := Lib.hid (fun (hn : findIn P c = none) (h0 : ∀ j, j < P.length → (P[j]?).map Slab.cls ≠ some (-1)) => show findV P c = .tuple #[.int .i64 0, .int .i64 0, .bool false] by
    have e : findWhole P = none := by
      unfold findWhole
      rw [List.find?_eq_none]
      intro j hj
      simpa using h0 j (List.mem_range.1 hj)
    unfold findV find
    rw [hn, e]
    rfl)
  have hn32 := h.n32
  have hn1 := h.n1
  have HGET := Lib.hid (fun i (hi : i < P.length) => (⟨P[i], List.getElem?_eq_getElem hi⟩ : ∃ s, P[i]? = some s))
  clear h
  generalize hN : P.length = n at *
  clear hN
  go_enter Try.func38, Try.ntmps38
  go_wp2_with fail
  refine (HA.out).mono ?_
  rintro e w' ⟨rfl, rfl⟩
  go_wp2
  go_loop [7, 8, 9, 14] (fun _ _ _ kv => ∃ j : Nat, j ≤ n ∧ kv = .int .i64 j ∧ ∀ i, i < j → (P[i]?).bind (room? c) = none) (fun _ _ _ kv => n - (intOf kv).toNat)
  case atStart => exact ⟨0, by omega, rfl, fun k hk => by omega⟩
  case round =>
    obtain ⟨j, hj, rfl, hall⟩ := hrel
    have HALL := Lib.hid hall
    clear hall
    by_cases hlt : j < n
    · have y1 : (0 : Int) ≤ (j : Int) := by omega
      have y2 : (j : Int) < (n : Int) := by omega
      have y3 : decide ((j : Int) < (n : Int)) = true := by rw [decide_eq_true_eq]; omega
      obtain ⟨s, hs⟩ := HGET.out j hlt
      have xc := HK.out j s hs
      have HS := Lib.hid hs
      clear hs
      by_cases hcc : s.cls = c
      · have HFR := Lib.hid (HF.out j s HS.out (by omega))
        have HRM : Hid ((P[j]?).bind (room? c) = s.free) := Lib.hid (by rw [HS.out]; simp [room?, hcc])
        have q1 : (s.cls == c) = true := by simpa using hcc
        have HCC := Lib.hid hcc
        clear hcc
        by_cases hfr : freeI s = -1
        · have hnone : s.free = none := by
            unfold freeI at hfr
            split at hfr
            · omega
            · assumption
          have HRN := Lib.hid (HRM.out.trans hnone)
          rw [hfr] at HFR
          clear hnone hfr
          go_wp2_with fail
          refine HFR.out.mono ?_
          rintro e w' ⟨rfl, rfl⟩
          go_wp2
          go_round
          · exact ⟨j + 1, by omega, by simp, fun i hi => by
              by_cases e : i = j
              · rw [e]; exact HRN.out
              · exact HALL.out i (by omega)⟩
          · simp [intOf]
            omega
        · obtain ⟨k, hk, hk2⟩ : ∃ k : Nat, s.free = some k ∧ freeI s = (k : Int) := by
            unfold freeI at hfr ⊢
            split at hfr
            · rename_i k hk
              exact ⟨k, hk, rfl⟩
            · omega
          have HRS := Lib.hid (HIN.out j k hlt HALL.out (HRM.out.trans hk))
          rw [hk2] at HFR
          have q2 : ((k : Int) != -1) = true := by rw [bne_iff_ne]; omega
          clear hfr hk hk2
          go_wp2_with fail
          refine HFR.out.mono ?_
          rintro e w' ⟨rfl, rfl⟩
          go_wp2
          go_ret3
          exact ⟨by rw [HRS.out]; rfl, rfl⟩
      · have q1 : (s.cls == c) = false := by simpa using hcc
        have HRN : Hid ((P[j]?).bind (room? c) = none) := Lib.hid (by rw [HS.out]; simp [room?, hcc])
        clear hcc
        go_wp2
        go_round
        · exact ⟨j + 1, by omega, by simp, fun i hi => by
            by_cases e : i = j
            · rw [e]; exact HRN.out
            · exact HALL.out i (by omega)⟩
        · simp [intOf]
          omega
    · obtain rfl : j = n := by omega
      have y3 : decide ((j : Int) < (j : Int)) = false := by simp
      have HN := Lib.hid (HNO.out HALL.out)
      go_wp2_with fail
      refine (HA.out).mono ?_
      rintro e w' ⟨rfl, rfl⟩
      go_wp2
      go_loop [10, 39] (fun _ kv => ∃ i : Nat, i ≤ j ∧ kv = .int .i64 i ∧ ∀ k, k < i → (P[k]?).map Slab.cls ≠ some (-1)) (fun _ kv => j - (intOf kv).toNat)
      case atStart => exact ⟨0, by omega, rfl, fun k hk => by omega⟩
      case round =>
        obtain ⟨i, hi, rfl, hall⟩ := hrel
        have HAL2 := Lib.hid hall
        clear hall
        by_cases hlt2 : i < j
        · have z1 : (0 : Int) ≤ (i : Int) := by omega
          have z2 : (i : Int) < (j : Int) := by omega
          have z3 : decide ((i : Int) < (j : Int)) = true := by rw [decide_eq_true_eq]; omega
          obtain ⟨s, hs⟩ := HGET.out i hlt2
          have xc := HK.out i s hs
          by_cases hw : s.cls = -1
          · have HRS := Lib.hid (HWH.out i HN.out hlt2 HAL2.out (by rw [hs]; simp [hw]))
            have q1 : (s.cls == -1) = true := by simpa using hw
            rw [hw] at xc
            clear hs hw
            go_wp2
            go_ret3
            exact ⟨by rw [HRS.out]; rfl, rfl⟩
          · have q1 : (s.cls == -1) = false := by simpa using hw
            have HNE : Hid ((P[i]?).map Slab.cls ≠ some (-1)) := Lib.hid (by rw [hs]; simpa using hw)
            clear hs hw
            go_wp2
            go_round
            · exact ⟨i + 1, by omega, by simp, fun k hk => by
                by_cases e : k = i
                · rw [e]; exact HNE.out
                · exact HAL2.out k (by omega)⟩
            · simp [intOf]
              omega
        · obtain rfl : i = j := by omega
          have z3 : decide ((i : Int) < (i : Int)) = false := by simp
          have HRS := Lib.hid (HNN.out HN.out HAL2.out)
          go_wp2
          go_ret3
          exact ⟨by rw [HRS.out]; rfl, rfl⟩
end Go.Proofs.Ytpenmnngjfncgaa
