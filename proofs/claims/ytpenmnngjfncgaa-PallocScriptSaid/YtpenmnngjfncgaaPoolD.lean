/- The contracts of palloc: Give, Mark, Of, Room. -/
import Derived.Test.YtpenmnngjfncgaaPoolC
namespace Go.Proofs.Ytpenmnngjfncgaa
open Go.RowKit Go.Proofs.FuMem Go.Proofs.FuClass Go.Proofs.FuPool
set_option maxRecDepth 100000
theorem pool_at_nil (line : Int) (w : World) :
    Calls Try.prog 41 #[.pointer none, .int .i64 line] w fun e w' => e = .returned (.tuple #[.pointer none, .int .i64 0, .bool false]) ∧ w = w' := by
  have HSO := Lib.hid (fun w => geom_SlabOf line w)
  have hb := slabOf_bd line
  have HA := Lib.hid (pool_all_nil w)
  by_cases h0 : slabOf line < 0
  · generalize slabOf line = i at *
    go_enter Try.func41, Try.ntmps41
    go_wp2_with fail
    refine (HSO.out _).mono ?_
    rintro e w' ⟨rfl, rfl⟩
    go_wp2
    go_ret3
    exact ⟨rfl, rfl⟩
  · have q2 : decide (slabOf line < 0) = false := by rw [decide_eq_false_iff_not]; omega
    have q1 : decide (0 ≤ slabOf line) = true := by rw [decide_eq_true_eq]; omega
    generalize slabOf line = i at *
    go_enter Try.func41, Try.ntmps41
    go_wp2_with fail
    refine (HSO.out _).mono ?_
    rintro e w' ⟨rfl, rfl⟩
    go_wp2_with fail
    refine (HA.out).mono ?_
    rintro e w' ⟨rfl, rfl⟩
    go_wp2
    go_ret3
    exact ⟨rfl, rfl⟩
theorem pool_Of (g sb : Nat) (P : Pool) (line : Int) (w : World) (h : PoolAt w g sb P) (hP : Ok P) :
    Calls Try.prog 31 #[.pointer (some ⟨g, 0, none⟩), .int .i64 line] w fun e w' => e = .returned (.tuple #[.int .i64 (ofA P line).1, .bool (ofA P line).2]) ∧ Only [] w w' := by
  have HA := Lib.hid (pool_at g sb P line w h hP)
  have H := Lib.hid h
  have h32 := h.n32
  clear h
  go_enter Try.func31, Try.ntmps31
  go_wp2_with fail
  refine HA.out.mono ?_
  rintro e w2 ⟨x, y, b, rfl, hat, o2⟩
  have O2 := Lib.hid o2
  rcases hat with ⟨hn, rfl⟩ | ⟨i, k, hs, rfl, rfl, rfl⟩
  · have HE := Lib.hid (show ofA P line = (0, false) by unfold ofA; rw [hn])
    clear hn o2
    go_wp2
    go_ret2
    exact ⟨by rw [HE.out]; rfl, O2.out⟩
  · obtain ⟨s, hss, _⟩ := blockAt_some h32 hs
    have HE := Lib.hid (show ofA P line = (s.cls, true) by unfold ofA; rw [hs]; simp [hss])
    have xc : w2.cell? ⟨sb, i * 10, none⟩ = some (.int .i64 s.cls) := (H.out.only0 o2).cls hss
    generalize s.cls = cl at *
    clear hs hss o2
    go_wp2
    go_ret2
    exact ⟨by rw [HE.out]; rfl, O2.out⟩
theorem pool_Of_nil (line : Int) (w : World) :
    Calls Try.prog 31 #[.pointer none, .int .i64 line] w fun e w' => e = .returned (.tuple #[.int .i64 0, .bool false]) ∧ w = w' := by
  have HA := Lib.hid (pool_at_nil line w)
  go_enter Try.func31, Try.ntmps31
  go_wp2_with fail
  refine (HA.out).mono ?_
  rintro e w' ⟨rfl, rfl⟩
  go_wp2
  go_ret2
  exact ⟨rfl, rfl⟩
theorem pool_Room (g sb : Nat) (P : Pool) (c : Int) (w : World) (h : PoolAt w g sb P) (hc : -9223372036854775808 ≤ c ∧ c ≤ 9223372036854775807) :
    Calls Try.prog 34 #[.pointer (some ⟨g, 0, none⟩), .int .i64 c] w fun e w' => e = .returned (.bool (roomOf P c)) ∧ w = w' := by
  have HSP := Lib.hid (fun w => class_Span c w hc)
  have hsc := span_cases c
  by_cases h0 : span c = 0
  · have HE := Lib.hid (show roomOf P c = false by unfold roomOf; simp [h0])
    rw [h0] at HSP
    clear h h0 hsc
    go_enter Try.func34, Try.ntmps34
    go_wp2_with fail
    refine (HSP.out _).mono ?_
    rintro e w' ⟨rfl, rfl⟩
    go_wp2
    go_ret
    exact ⟨by rw [HE.out]; rfl, rfl⟩
  have hc3 : 0 ≤ c ∧ c ≤ 3 := by omega
  have HF := Lib.hid (pool_find g sb P c w h hc3)
  have d0 : ((span c : Int) == 0) = false := by simp; omega
  have d1 : ¬ (span c : Int) = 0 := by omega
  obtain ⟨a, b, hv⟩ : ∃ a b : Int, findV P c = .tuple #[.int .i64 a, .int .i64 b, .bool (find P c).isSome] := by
    unfold findV
    cases find P c with
    | none => exact ⟨0, 0, rfl⟩
    | some x => exact ⟨x.1, x.2, rfl⟩
  have HE := Lib.hid (show roomOf P c = (find P c).isSome by unfold roomOf; simp [h0])
  rw [hv] at HF
  clear h h0 hsc hv
  generalize (find P c).isSome = r at *
  generalize span c = s at *
  go_enter Try.func34, Try.ntmps34
  go_wp2_with fail
  refine (HSP.out _).mono ?_
  rintro e w' ⟨rfl, rfl⟩
  go_wp2_with fail
  refine (HF.out).mono ?_
  rintro e w' ⟨rfl, rfl⟩
  go_wp2
  go_ret
  exact ⟨by rw [HE.out]; rfl, rfl⟩
theorem pool_find_nil (c : Int) (w : World) :
    Calls Try.prog 38 #[.pointer none, .int .i64 c] w fun e w' => e = .returned (.tuple #[.int .i64 0, .int .i64 0, .bool false]) ∧ w = w' := by
  have HA := Lib.hid (pool_all_nil w)
  go_enter Try.func38, Try.ntmps38
  go_wp2_with fail
  refine (HA.out).mono ?_
  rintro e w' ⟨rfl, rfl⟩
  go_wp2
  go_loop [7, 8, 9, 14] (fun _ _ _ kv => kv = .int .i64 0) (fun _ _ _ _ => 0)
  case atStart => rfl
  case round =>
    obtain rfl := hrel
    go_wp2_with fail
    refine (HA.out).mono ?_
    rintro e w' ⟨rfl, rfl⟩
    go_wp2
    go_loop [10, 39] (fun _ kv => kv = .int .i64 0) (fun _ _ => 0)
    case atStart => rfl
    case round =>
      obtain rfl := hrel
      go_wp2
      go_ret3
      exact ⟨rfl, rfl⟩
theorem pool_Room_nil (c : Int) (w : World) (hc : -9223372036854775808 ≤ c ∧ c ≤ 9223372036854775807) :
    Calls Try.prog 34 #[.pointer none, .int .i64 c] w fun e w' => e = .returned (.bool false) ∧ w = w' := by
  have HSP := Lib.hid (fun w => class_Span c w hc)
  have HF := Lib.hid (pool_find_nil c w)
  by_cases h0 : span c = 0
  · rw [h0] at HSP
    clear h0
    go_enter Try.func34, Try.ntmps34
    go_wp2_with fail
    refine (HSP.out _).mono ?_
    rintro e w' ⟨rfl, rfl⟩
    go_wp2
    go_ret
    exact ⟨rfl, rfl⟩
  · have d0 : ((span c : Int) == 0) = false := by simp; omega
    have d1 : ¬ (span c : Int) = 0 := by omega
    clear h0
    generalize span c = s at *
    go_enter Try.func34, Try.ntmps34
    go_wp2_with fail
    refine (HSP.out _).mono ?_
    rintro e w' ⟨rfl, rfl⟩
    go_wp2_with fail
    refine (HF.out).mono ?_
    rintro e w' ⟨rfl, rfl⟩
    go_wp2
    go_ret
    exact ⟨rfl, rfl⟩
theorem give_cells {s : Slab} (hl : s.taken.length = 8) {k : Nat} (hk : k < 8) (hf : s.at k = true) : s.n = (s.give k).n + 1 ∧
    ((s.give k).n = 0 → ((cellsOf s).set (1 + k) (.bool false) |>.set 9 (.int .i64 ((s.n : Int) - 1)) |>.set 0 (.int .i64 (-1))) = cellsOf (s.give k)) ∧
    ((s.give k).n ≠ 0 → ((cellsOf s).set (1 + k) (.bool false) |>.set 9 (.int .i64 ((s.n : Int) - 1))) = cellsOf (s.give k)) := by
  have hn : (s.give k).n + 1 = s.n := count_set_false (at_some hf)
  have e0 : ((s.n : Int) - 1) = (((s.give k).n : Nat) : Int) := by omega
  have e1 : ((s.taken.map Value.bool ++ [Value.int .i64 s.n]).set k (.bool false)).set 8 (Value.int .i64 ((s.n : Int) - 1)) = (s.taken.set k false).map Value.bool ++ [Value.int .i64 ((s.give k).n : Nat)] := by
    rw [List.set_append_left _ _ (by simp; omega), List.set_append_right _ _ (by simp; omega), e0]
    simp [hl, List.map_set]
  refine ⟨hn.symm, fun h0 => ?_, fun h0 => ?_⟩
  · unfold cellsOf
    rw [show 1 + k = k + 1 by omega]
    show (Value.int .i64 (-1)) :: (((s.taken.map Value.bool ++ [Value.int .i64 s.n]).set k (.bool false)).set 8 (Value.int .i64 ((s.n : Int) - 1))) = _
    rw [e1]
    have : (s.give k).cls = -1 := if_pos h0
    rw [this]
    rfl
  · unfold cellsOf
    rw [show 1 + k = k + 1 by omega]
    show (Value.int .i64 s.cls) :: (((s.taken.map Value.bool ++ [Value.int .i64 s.n]).set k (.bool false)).set 8 (Value.int .i64 ((s.n : Int) - 1))) = _
    rw [e1]
    have : (s.give k).cls = s.cls := if_neg h0
    rw [this]
    rfl
theorem pool_Give_nil (line : Int) (w : World) :
    Calls Try.prog 20 #[.pointer none, .int .i64 line] w fun e w' => e = .returned (.int .i64 1) ∧ w = w' := by
  have HA := Lib.hid (pool_at_nil line w)
  go_enter Try.func20, Try.ntmps20
  go_wp2_with fail
  refine (HA.out).mono ?_
  rintro e w' ⟨rfl, rfl⟩
  go_wp2
  go_ret
  exact ⟨rfl, rfl⟩
theorem pool_Give (g sb : Nat) (P : Pool) (line : Int) (w : World) (h : PoolAt w g sb P) (hP : Ok P) :
    Calls Try.prog 20 #[.pointer (some ⟨g, 0, none⟩), .int .i64 line] w fun e w' => e = .returned (.int .i64 (giveA P line)) ∧ PoolAt w' g sb (giveP P line) ∧ Only [sb] w w' := by
  have HA := Lib.hid (pool_at g sb P line w h hP)
  have H := Lib.hid h
  have h32 := h.n32
  clear h
  go_enter Try.func20, Try.ntmps20
  go_wp2_with fail
  refine HA.out.mono ?_
  rintro e w2 ⟨x, y, b, rfl, hat, o2⟩
  have O2 := Lib.hid (o2.mono (T := [sb]) (by simp))
  have hp2 := H.out.only0 o2
  have H2 := Lib.hid hp2
  clear o2
  rcases hat with ⟨hn, rfl⟩ | ⟨i, k, hs, rfl, rfl, rfl⟩
  · have HE := Lib.hid (show giveA P line = 1 by unfold giveA; rw [hn])
    have HP := Lib.hid (show giveP P line = P by unfold giveP; rw [hn])
    clear hn hp2
    go_wp2
    go_ret
    exact ⟨by rw [HE.out]; rfl, by rw [HP.out]; exact H2.out, O2.out⟩
  · obtain ⟨s, hss, ht, hln, hkm, c0, c3, _⟩ := blockAt_some h32 hs
    have HE := Lib.hid (show giveA P line = 0 by unfold giveA; rw [hs])
    have HP := Lib.hid (show giveP P line = P.modify i fun s => s.give k by unfold giveP; rw [hs])
    have hl := hp2.len s (List.mem_of_getElem? hss)
    have hm := many_span ⟨c0, c3⟩
    obtain ⟨e1, e2, e3⟩ := give_cells hl (k := k) (by omega) ht
    have hlg : (s.give k).taken.length = 8 := by simpa [Slab.give] using hl
    have x1 := hp2.mark hss (k := k) (by omega)
    have x9 := hp2.cnt hss
    have x0 := hp2.cls hss
    have f1 := hp2.frozen (i * 10 + 1 + k)
    have f9 := hp2.frozen (i * 10 + 9)
    have f0 := hp2.frozen (i * 10)
    have hnn := n_le hl
    have y1 : (0 : Int) ≤ (k : Int) := by omega
    have y2 : (k : Int) < 8 := by omega
    have ne1 : ¬ i * 10 = i * 10 + 1 + k := by omega
    have ne2 : ¬ i * 10 = i * 10 + 9 := by omega
    have ne3 : ¬ i * 10 + 1 + k = i * 10 + 9 := by omega
    have ne4 : ¬ i * 10 + 9 = i * 10 + 1 + k := by omega
    have ne5 : ¬ i * 10 + 9 = i * 10 := by omega
    by_cases hz : (s.give k).n = 0
    · have HT := Lib.hid (hp2.turn3 hss (o1 := 1 + k) (o2 := 9) (o3 := 0) (by omega) (by omega) (by omega) (.bool false) (.int .i64 ((s.n : Int) - 1)) (.int .i64 (-1)) (f := fun s => s.give k) (e2 hz) hlg)
      rw [Nat.add_zero, ← Nat.add_assoc] at HT
      have h1 : s.n = 1 := by omega
      rw [h1] at x9 HT hnn
      simp only [Int.natCast_one, Int.sub_self] at HT
      generalize s.at k = bb at *
      generalize s.cls = cl at *
      clear hp2 hss hs ht hln hkm hl e1 e2 e3 hlg hz h1 hm c0 c3
      go_wp2
      go_ret
      exact ⟨by rw [HE.out]; rfl, by rw [HP.out]; exact HT.out.1, O2.out.trans HT.out.2 (by simp)⟩
    · have HT := Lib.hid (hp2.turn2 hss (o1 := 1 + k) (o2 := 9) (by omega) (by omega) (.bool false) (.int .i64 ((s.n : Int) - 1)) (f := fun s => s.give k) (e3 hz) hlg)
      rw [← Nat.add_assoc] at HT
      have h1 : 2 ≤ s.n := by omega
      have q1 : (((s.n : Nat) : Int) - 1 == 0) = false := by simp; omega
      have q2 : ¬ ((s.n : Nat) : Int) - 1 = 0 := by omega
      generalize s.n = m at *
      generalize s.at k = bb at *
      clear hp2 hss hs ht hln hkm hl e2 e3 hlg hz hm c0 c3
      clear e1
      go_wp2
      go_ret
      exact ⟨by rw [HE.out]; rfl, by rw [HP.out]; exact HT.out.1, O2.out.trans HT.out.2 (by simp)⟩
end Go.Proofs.Ytpenmnngjfncgaa
