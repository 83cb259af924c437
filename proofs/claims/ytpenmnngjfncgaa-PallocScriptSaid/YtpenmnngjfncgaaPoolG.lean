/- The contracts of palloc: Slabs, Free, Taken. -/
import Derived.Test.YtpenmnngjfncgaaPoolF
namespace Go.Proofs.FuPool
open Go.RowKit Go.Proofs.FuMem Go.Proofs.FuClass
theorem slabs_succ {P : Pool} {j : Nat} {s : Slab} (hs : P[j]? = some s) : (((P.take j).map Slab.cls).map (Value.int .i64)) ++ [Value.int .i64 s.cls] = ((P.take (j + 1)).map Slab.cls).map (Value.int .i64) := by
  rw [List.take_add_one, hs]
  simp
theorem slabs_all (P : Pool) : (P.take P.length).map Slab.cls = slabsOf P := by rw [List.take_length]; rfl
/-- the free ones among the first m blocks of a slab -/
def freeTo1 (c : Int) (i : Nat) (s : Slab) (m : Nat) : List Int := ((List.range m).filter fun k => !s.at k).map fun k => lineAt i k c
theorem freeTo1_yes {c : Int} {i m : Nat} {s : Slab} (h : s.at m = false) : freeTo1 c i s (m + 1) = freeTo1 c i s m ++ [lineAt i m c] := by
  unfold freeTo1
  rw [List.range_succ, List.filter_append, List.map_append]
  simp [h]
theorem freeTo1_no {c : Int} {i m : Nat} {s : Slab} (h : s.at m = true) : freeTo1 c i s (m + 1) = freeTo1 c i s m := by
  unfold freeTo1
  rw [List.range_succ, List.filter_append, List.map_append]
  simp [h]
theorem freeTo_succ {P : Pool} {c : Int} {j : Nat} {s : Slab} (hs : P[j]? = some s) : freeTo P c (j + 1) = freeTo P c j ++ freeIn c j s := by
  unfold freeTo
  rw [List.range_succ, List.flatMap_append]
  simp [hs]
theorem freeTo1_all {c : Int} {i : Nat} {s : Slab} (h : s.cls = c) : freeTo1 c i s (many c) = freeIn c i s := by
  unfold freeTo1 freeIn
  rw [if_pos h]
theorem freeIn_no {c : Int} {i : Nat} {s : Slab} (h : s.cls ≠ c) : freeIn c i s = [] := if_neg h
theorem freeTo_length (P : Pool) (c : Int) (n : Nat) : (freeTo P c n).length ≤ n * 8 := by
  induction n with
  | zero => simp [freeTo]
  | succ n ih =>
    have : (freeTo P c (n + 1)).length ≤ (freeTo P c n).length + 8 := by
      unfold freeTo
      rw [List.range_succ, List.flatMap_append, List.length_append]
      simp only [List.flatMap_cons, List.flatMap_nil, List.append_nil]
      have h8 : many c ≤ 8 := by have := many_cases c; omega
      cases P[n]? with
      | none => simp
      | some s =>
        simp only
        unfold freeIn
        split
        · rw [List.length_map]
          have := List.length_filter_le (fun k => !s.at k) (List.range (many c))
          rw [List.length_range] at this
          omega
        · simp
    omega
/-- the taken ones among the first m blocks of a slab -/
def blocks1 (i : Nat) (s : Slab) (m : Nat) : List (Int × Int) := ((List.range m).filter fun k => s.at k).map fun k => (lineAt i k s.cls, s.cls)
theorem blocks1_yes {i m : Nat} {s : Slab} (h : s.at m = true) : blocks1 i s (m + 1) = blocks1 i s m ++ [(lineAt i m s.cls, s.cls)] := by
  unfold blocks1
  rw [List.range_succ, List.filter_append, List.map_append]
  simp [h]
theorem blocks1_no {i m : Nat} {s : Slab} (h : s.at m = false) : blocks1 i s (m + 1) = blocks1 i s m := by
  unfold blocks1
  rw [List.range_succ, List.filter_append, List.map_append]
  simp [h]
theorem blocksTo_succ {P : Pool} {j : Nat} {s : Slab} (hs : P[j]? = some s) : blocksTo P (j + 1) = blocksTo P j ++ blocks j s := by
  unfold blocksTo
  rw [List.range_succ, List.flatMap_append]
  simp [hs]
theorem blocks1_all (i : Nat) (s : Slab) : blocks1 i s (many s.cls) = blocks i s := rfl
theorem blocks1_length (i : Nat) (s : Slab) (m : Nat) : (blocks1 i s m).length ≤ m := by
  unfold blocks1
  rw [List.length_map]
  have := List.length_filter_le (fun k => s.at k) (List.range m)
  rw [List.length_range] at this
  exact this
theorem blocksTo_length (P : Pool) (n : Nat) : (blocksTo P n).length ≤ n * 8 := by
  induction n with
  | zero => simp [blocksTo]
  | succ n ih =>
    have : (blocksTo P (n + 1)).length ≤ (blocksTo P n).length + 8 := by
      unfold blocksTo
      rw [List.range_succ, List.flatMap_append, List.length_append]
      simp only [List.flatMap_cons, List.flatMap_nil, List.append_nil]
      cases P[n]? with
      | none => simp
      | some s =>
        simp only
        have h8 : many s.cls ≤ 8 := by have := many_cases s.cls; omega
        have := blocks1_length n s (many s.cls)
        rw [blocks1_all] at this
        omega
    omega
theorem freeTo1_length (c : Int) (i : Nat) (s : Slab) (m : Nat) : (freeTo1 c i s m).length ≤ m := by
  unfold freeTo1
  rw [List.length_map]
  have := List.length_filter_le (fun k => !s.at k) (List.range m)
  rw [List.length_range] at this
  exact this
end Go.Proofs.FuPool
namespace Go.Proofs.Ytpenmnngjfncgaa
open Go.RowKit Go.Proofs.FuMem Go.Proofs.FuClass Go.Proofs.FuPool
set_option maxRecDepth 100000
theorem slabSize : (Try.prog.info? 63).map (·.size) = some 10 := by kernel_rfl
theorem cells_one (s : Slab) : (cellsOf s).toArray.all (·.oneCell') = true := all_oneCell_toArray (cellsOf_one s)
theorem slabZ0 : ∃ z, (Try.prog.info? 63).map (·.zero) = some (some z) ∧ z.cells = (cellsOf raw).toArray := by
  obtain ⟨ci, cz, hi, hz, hs, hc, hby⟩ := slabZero
  exact ⟨cz, by rw [hi]; simp [hz], hc⟩
set_option maxHeartbeats 800000 in
theorem pool_Slabs (g sb : Nat) (P : Pool) (w : World) (h : PoolAt w g sb P) :
    Calls Try.prog 14 #[.pointer (some ⟨g, 0, none⟩)] w fun e w' => ∃ x, e = .returned x ∧ MadeI w (slabsOf P) x w' := by
  have HA := Lib.hid (pool_all g sb P w h)
  have H := Lib.hid h
  have h32 := h.n32
  obtain ⟨i0, hi, hz0, hz1, hz2⟩ := info_parts Try.intInfo
  have HI := Lib.hid hi
  have HZ0 := Lib.hid hz0
  have HZ1 := Lib.hid hz1
  have HZ2 := Lib.hid hz2
  obtain ⟨cz, hcz, hcc⟩ := slabZ0
  have HCZ := Lib.hid hcz
  have HCC := Lib.hid hcc
  have HALL := Lib.hid (slabs_all P)
  have HGET := Lib.hid (fun i (hi : i < P.length) => (⟨P[i], List.getElem?_eq_getElem hi⟩ : ∃ s, P[i]? = some s))
  clear hi hz0 hz1 hz2 hcz hcc h
  generalize hN : P.length = n at *
  clear hN
  go_enter Try.func14, Try.ntmps14
  go_wp2_with fail
  refine (HA.out).mono ?_
  rintro e w' ⟨rfl, rfl⟩
  go_wp2
  go_loopw [3, 9] (fun ov kv wr => ∃ j : Nat, j ≤ n ∧ kv = .int .i64 j ∧ wr.ownsRow w.heap.size 3 1 ov j (((P.take j).map Slab.cls).map (.int .i64)) ∧ Only [] w wr) (fun _ kv _ => n - (intOf kv).toNat)
  case atStart => exact ⟨0, by omega, rfl, by simpa using own_nil _ _ _ _, Only.refl _ _⟩
  case round =>
    obtain ⟨j, hj, rfl, ho, on⟩ := hrel
    by_cases hlt : j < n
    · have y1 : (0 : Int) ≤ (j : Int) := by omega
      have y2 : (j : Int) < (n : Int) := by omega
      have y3 : decide ((j : Int) < (n : Int)) = true := by rw [decide_eq_true_eq]; omega
      obtain ⟨s, hs⟩ := HGET.out j hlt
      have hp := H.out.only0 on
      have HRG := Lib.hid (hp.range hs)
      have hlen := cellsOf_length (hp.len s (List.mem_of_getElem? hs))
      have HLEN := Lib.hid hlen
      have HSU := Lib.hid (slabs_succ hs)
      have HO := Lib.hid ho
      have ON := Lib.hid on
      have HONE := Lib.hid (cells_one s)
      have HC0 := Lib.hid (show (cellsOf s)[0]? = some (.int .i64 s.cls) from rfl)
      clear ho on hp hs hlen
      generalize cellsOf s = C at *
      generalize s.cls = cl at *
      go_wp2_with (first | (at_builtin; obtain ⟨A8, c8, w8, hr8, hw8, hs8, on8⟩ := append_own (P := Try.prog) (w3.alloc (.cells #[.int .i64 cl] 3)) (ON3.out.alloc _) 28 28 3 i0 _ 8 Try.underlying28 HI.out HZ0.out HZ1.out HZ2.out rfl _ j _ (HO3.out.alloc _) (some ⟨w3.heap.size, 0, none⟩) 1 1 [.int .i64 cl] (cell_new1 _ _ _) (ints_new1 _ _) (by unfold maxLen; omega) (by omega); rw [HSU.out] at hw8; have H8 := Lib.hid hw8; have N8 := Lib.hid on8; clear hw8 hs8 on8; refine wpList_append_run _ rfl (.tmp 13) (.tmp 16) 28 rfl _ _ rfl rfl _ _ hr8 ?_) | ((with_reducible show wpList _ _ _ (Oper.mk (some 12) _ _ _ _ _ :: _) _ _); refine wpList_load_mid rfl 63 (.tmp 11) rfl sb (j * 10) rfl C _ HRG.out Try.underlying63 rfl (by rw [HLEN.out]; exact slabSize) ?_) | ((with_reducible show wpList _ _ _ (Oper.mk (some 5) _ _ _ _ _ :: _) _ _); refine wpList_alloc_blk rfl 63 rfl cz HCZ.out ?_; intro w2 hb2 ho2 hs2; have B2 := Lib.hid hb2; have O2 := Lib.hid ho2; clear hb2 ho2 hs2) | ((with_reducible show wpList _ _ _ (Oper.mk none _ _ _ _ _ :: _) _ _); refine wpList_store_all rfl 63 (.tmp 5) (.tmp 12) rfl wr.heap.size C.toArray rfl rfl _ _ B2.out (by rw [HCC.out, List.size_toArray, HLEN.out]; rfl) (by rw [List.size_toArray, HLEN.out]; exact slabSize) HONE.out ?_; intro w3 hb3 ho3; have x0 : w3.cell? ⟨wr.heap.size, 0, none⟩ = some (.int .i64 cl) := (by rw [hb3.cell, List.getElem?_toArray]; exact HC0.out); have o23 : Only [] wr w3 := O2.out.trans ho3 (by simp); have ON3 := Lib.hid (ON.out.trans0 o23); have HO3 := Lib.hid (own_only HO.out o23 (by simp)); clear hb3 ho3 o23))
      go_roundw
      · exact ⟨j + 1, by omega, by simp, H8.out, N8.out⟩
      · simp [intOf]
        omega
    · obtain rfl : j = n := by omega
      have y3 : decide ((j : Int) < (j : Int)) = false := by simp
      rw [HALL.out] at ho
      obtain ⟨A', c', rfl, _, _⟩ := own_slice ho
      have HO := Lib.hid ho
      have ON := Lib.hid on
      have hln : (slabsOf P).length = j := by simpa using ho.1
      have HLN := Lib.hid hln
      clear ho on hln
      go_wp2
      go_ret
      exact ⟨_, rfl, madeI_own HLN.out HO.out ON.out⟩
end Go.Proofs.Ytpenmnngjfncgaa
