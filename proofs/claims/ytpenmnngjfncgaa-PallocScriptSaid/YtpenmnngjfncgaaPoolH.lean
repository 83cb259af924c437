/- The contracts of palloc: Free, Taken. -/
import Derived.Test.YtpenmnngjfncgaaPoolG
import Derived.Test.YtpenmnngjfncgaaPoolC
namespace Go.Proofs.FuMem
open Go.RowKit
/-- append to a row of the call's own: which blocks may have been written since a world w4 -/
theorem append_ownX {P : Program} (w : World) {w0 w4 : World} {S : List Nat} (on : Only [] w0 w) (on4 : Only S w4 w) (t ty e : TypeId) (i : TypeInfo) (z : Value) (size bytes : Nat) (ht : P.underlying t = some (.slice e)) (hi : P.info? e = some i) (hz : i.zero = some z)
    (hsize : i.size = size) (hby : i.bytes = bytes) (hzs : z.cells.size = size) (hsz : 0 < size)
    (v : Value) (n : Nat) (xs : List Value) (hown : w.ownsRow w0.heap.size e size v n xs) (hS : ∀ k, v.ownBlock = some k → k ∈ S ∨ w4.heap.size ≤ k)
    (a : Addr) (m c : Nat) (news : List Value) (hl : news.length = m * size) (hnews : ∀ j u, news[j]? = some u → w.cell? (a.add j) = some u) (h1 : ∀ u ∈ news, u.oneCell' = true)
    (h63 : n + m ≤ maxLen) (hbytes : (n + m) * bytes ≤ 140737488355328) :
    ∃ A' c' w', (Builtin.append_ #[t, t] ty #[v, .slice (some a) m c]).run P w = .ok (.slice A' (n + m) c') w' ∧ w'.ownsRow w0.heap.size e size (.slice A' (n + m) c') (n + m) (xs ++ news) ∧ Only [] w0 w' ∧ Only S w4 w' ∧
      ∀ k, (Value.slice A' (n + m) c').ownBlock = some k → k ∈ S ∨ w4.heap.size ≤ k := by
  obtain ⟨v', w', hrun, h2, h3, _, h5⟩ := run_append_own_at (P := P) w w0.heap.size t ty e i z size bytes ht hi hz hsize hby hzs hsz v n xs hown a m c news hl hnews h1 h63 hbytes on.size
  obtain ⟨A', c', rfl, _, _⟩ := own_slice h2
  have g4 : Only (v.ownBlock.toList) w w' := Only.of_grown h3 (fun k hk => .inl (by rw [hk]; simp))
  refine ⟨A', c', w', hrun, h2, ?_, ?_, ?_⟩
  · exact ⟨h3.os.trans on.os, h3.tape.trans on.tape, h3.output.trans on.output, Nat.le_trans on.size h3.size, fun k hk hn =>
      (h3.block k (Nat.lt_of_lt_of_le hk on.size) (fun e => by have := hown.lt k e.symm; omega)).trans (on.block k hk hn)⟩
  · refine on4.trans g4 fun b hb => ?_
    cases hv : v.ownBlock with
    | none => rw [hv] at hb; simp at hb
    | some k =>
      rw [hv] at hb
      simp at hb
      subst hb
      exact hS b hv
  · intro k hk
    rcases h5 with h5 | h5
    · exact hS k (h5.symm.trans hk)
    · rw [h5] at hk
      cases hk
      exact .inr on4.size
end Go.Proofs.FuMem
namespace Go.Proofs.Ytpenmnngjfncgaa
open Go.RowKit Go.Proofs.FuMem Go.Proofs.FuClass Go.Proofs.FuPool
set_option maxRecDepth 100000
theorem new_cells {w : World} {t : TypeId} {vs : List Value} (j : Nat) (u : Value) (h : vs[j]? = some u) : (w.alloc (.cells vs.toArray t)).cell? ((⟨w.heap.size, 0, none⟩ : Addr).add j) = some u := by
  rw [Addr.add_lit, Nat.zero_add, (Blk.new w t vs.toArray).cell j, List.getElem?_toArray]
  exact h
theorem Try.takenInfo : (Try.prog.info? 32).map (fun i => (i.zero, i.size, i.bytes)) = some (some (.agg #[.int .i64 0, .int .i64 0]), 2, 16) := by kernel_rfl
def tcells (l : List (Int × Int)) : List Value := l.flatMap fun x => [.int .i64 x.1, .int .i64 x.2]
/-- what a function hands back that makes a list of taken blocks of its own -/
def MadeT (w : World) (l : List (Int × Int)) (v : Value) (w' : World) : Prop := ∃ A c, v = .slice A l.length c ∧ w'.ownsRow w.heap.size 32 2 v l.length (tcells l) ∧ Only [] w w'
set_option maxHeartbeats 2000000 in
theorem pool_Free (g sb : Nat) (P : Pool) (c : Int) (w : World) (h : PoolAt w g sb P) (hP : Ok P) (_hc : -9223372036854775808 ≤ c ∧ c ≤ 9223372036854775807) :
    Calls Try.prog 25 #[.pointer (some ⟨g, 0, none⟩), .int .i64 c] w fun e w' => ∃ x, e = .returned x ∧ MadeI w (freeOf P c) x w' := by
  have HA := Lib.hid (pool_all g sb P w h)
  have H := Lib.hid h
  have h32 := h.n32
  obtain ⟨i0, hi, hz0, hz1, hz2⟩ := info_parts Try.intInfo
  have HI := Lib.hid hi
  have HZ0 := Lib.hid hz0
  have HZ1 := Lib.hid hz1
  have HZ2 := Lib.hid hz2
  obtain ⟨cz, hcz, hcc⟩ := slabZ0
  have HCZ := Lib.hid hcz
  have HCC := Lib.hid hcc
  have HPK := Lib.hid hP
  have HGET := Lib.hid (fun i (hi : i < P.length) => (⟨P[i], List.getElem?_eq_getElem hi⟩ : ∃ s, P[i]? = some s))
  have HFIN := Lib.hid (show (freeOf P c) = (freeTo P c P.length) from rfl)
  clear hi hz0 hz1 hz2 hcz hcc h hP
  generalize hN : P.length = n at *
  clear hN
  go_enter Try.func25, Try.ntmps25
  go_wp2_with fail
  refine (HA.out).mono ?_
  rintro e w' ⟨rfl, rfl⟩
  go_wp2
  go_loopw [5, 13] (fun ov kv wr => ∃ j : Nat, j ≤ n ∧ kv = .int .i64 j ∧ wr.ownsRow w.heap.size 3 1 ov (freeTo P c j).length ((freeTo P c j).map (Value.int .i64)) ∧ Only [] w wr) (fun _ kv _ => n - (intOf kv).toNat)
  case atStart => exact ⟨0, by omega, rfl, own_nil _ _ _ _, Only.refl _ _⟩
  case round =>
    obtain ⟨j, hj, rfl, ho, on⟩ := hrel
    by_cases hlt : j < n
    · have y1 : (0 : Int) ≤ (j : Int) := by omega
      have y2 : (j : Int) < (n : Int) := by omega
      have y3 : decide ((j : Int) < (n : Int)) = true := by rw [decide_eq_true_eq]; omega
      obtain ⟨s, hs⟩ := HGET.out j hlt
      have hp := H.out.only0 on
      have HRG := Lib.hid (hp.range hs)
      have hlen := cellsOf_length (hp.len s (List.mem_of_getElem? hs))
      have HLEN := Lib.hid hlen
      have HO := Lib.hid ho
      have ON := Lib.hid on
      have HONE := Lib.hid (cells_one s)
      have HC0 := Lib.hid (show (cellsOf s)[0]? = some (.int .i64 s.cls) from rfl)
      have HCM := Lib.hid (fun m (hm : m < 8) => show (cellsOf s)[1 + m]? = some (.bool (s.at m)) from (hp.cell hs (by omega)).symm.trans (by rw [← Nat.add_assoc]; exact hp.mark hs hm))
      have hcb := cls_bd HPK.out hs
      have HST := Lib.hid (fun w => class_Starts (j : Int) s.cls w (by omega))
      have hse := starts_eq (i := j) (c := s.cls) (by omega)
      have hm8 : many s.cls ≤ 8 := by have := many_cases s.cls; omega
      have HTS := Lib.hid (freeTo_succ (c := c) hs)
      have htl : (freeTo P c j).length ≤ 256 := by have := freeTo_length P c j; omega
      have HFL := Lib.hid (fun m => freeTo1_length c j s m)
      have HYES := Lib.hid (fun m (h : s.at m = false) => freeTo1_yes (c := c) (i := j) (m := m) (s := s) h)
      have HNON := Lib.hid (fun m (h : s.at m = true) => freeTo1_no (c := c) (i := j) (m := m) (s := s) h)
      have HALL := Lib.hid (fun (h : s.cls = c) => freeTo1_all (i := j) h)
      have HNOT := Lib.hid (fun (h : s.cls ≠ c) => freeIn_no (i := j) h)
      clear ho on hp hs hlen
      generalize cellsOf s = C at *
      by_cases hcc : s.cls = c
      case neg =>
        have q1 : (s.cls != c) = true := by rw [bne_iff_ne]; exact hcc
        have HTS2 := Lib.hid (HTS.out.trans (by rw [HNOT.out hcc, List.append_nil]))
        clear hcc hcb hse hm8 HST HALL HNOT
        generalize s.cls = cl at *
        go_wp2_with (first | ((with_reducible show wpList _ _ _ (Oper.mk (some 17) _ _ _ _ _ :: _) _ _); refine wpList_load_mid rfl 63 (.tmp 16) rfl sb (j * 10) rfl C _ HRG.out Try.underlying63 rfl (by rw [HLEN.out]; exact slabSize) ?_) | ((with_reducible show wpList _ _ _ (Oper.mk (some 7) _ _ _ _ _ :: _) _ _); refine wpList_alloc_blk rfl 63 rfl cz HCZ.out ?_; intro w2 hb2 ho2 hs2; have B2 := Lib.hid hb2; have O2 := Lib.hid ho2; have S2 := Lib.hid hs2; clear hb2 ho2 hs2) | ((with_reducible show wpList _ _ _ (Oper.mk none _ _ _ _ _ :: _) _ _); refine wpList_store_all rfl 63 (.tmp 7) (.tmp 17) rfl wr.heap.size C.toArray rfl rfl _ _ B2.out (by rw [HCC.out, List.size_toArray, HLEN.out]; rfl) (by rw [List.size_toArray, HLEN.out]; exact slabSize) HONE.out ?_; intro w3 hb3 ho3; have B3 := Lib.hid hb3; have x0 : w3.cell? ⟨wr.heap.size, 0, none⟩ = some (.int .i64 cl) := (by rw [hb3.cell, List.getElem?_toArray]; exact HC0.out); have O23 := Lib.hid (O2.out.trans ho3 (by simp)); have S3 := Lib.hid (Nat.lt_of_lt_of_le (Nat.lt_of_lt_of_eq (Nat.lt_succ_self _) S2.out.symm) ho3.size); clear hb3 ho3))
        go_roundw
        · exact ⟨j + 1, by omega, by simp, by rw [HTS2.out]; exact own_only HO.out O23.out (by simp), ON.out.trans0 O23.out⟩
        · simp [intOf]
          omega
      have q1 : (s.cls != c) = false := by rw [bne_eq_false_iff_eq]; exact hcc
      rw [← HALL.out hcc] at HTS
      clear HNOT HALL
      rw [hcc] at HST hse hm8 HC0 q1
      clear hcc
      have hLl : (starts (j : Int) c).length = many c := by rw [hse]; simp
      have HLG := Lib.hid (fun m (hm : m < (starts (j : Int) c).length) => show (starts (j : Int) c)[m] = lineAt j m c by simp only [hse, List.getElem_map, List.getElem_range])
      generalize starts (j : Int) c = L at *
      have HLL := Lib.hid hLl
      have hL8 : L.length ≤ 8 := by omega
      clear hse hm8 hcb hLl
      go_wp2_with (first | ((with_reducible show wpList _ _ _ (Oper.mk (some 17) _ _ _ _ _ :: _) _ _); refine wpList_load_mid rfl 63 (.tmp 16) rfl sb (j * 10) rfl C _ HRG.out Try.underlying63 rfl (by rw [HLEN.out]; exact slabSize) ?_) | ((with_reducible show wpList _ _ _ (Oper.mk (some 7) _ _ _ _ _ :: _) _ _); refine wpList_alloc_blk rfl 63 rfl cz HCZ.out ?_; intro w2 hb2 ho2 hs2; have B2 := Lib.hid hb2; have O2 := Lib.hid ho2; have S2 := Lib.hid hs2; clear hb2 ho2 hs2) | ((with_reducible show wpList _ _ _ (Oper.mk none _ _ _ _ _ :: _) _ _); refine wpList_store_all rfl 63 (.tmp 7) (.tmp 17) rfl wr.heap.size C.toArray rfl rfl _ _ B2.out (by rw [HCC.out, List.size_toArray, HLEN.out]; rfl) (by rw [List.size_toArray, HLEN.out]; exact slabSize) HONE.out ?_; intro w3 hb3 ho3; have B3 := Lib.hid hb3; have x0 : w3.cell? ⟨wr.heap.size, 0, none⟩ = some (.int .i64 c) := (by rw [hb3.cell, List.getElem?_toArray]; exact HC0.out); have O23 := Lib.hid (O2.out.trans ho3 (by simp)); have S3 := Lib.hid (Nat.lt_of_lt_of_le (Nat.lt_of_lt_of_eq (Nat.lt_succ_self _) S2.out.symm) ho3.size); clear hb3 ho3))
      refine (HST.out _).mono ?_
      rintro e w4 ⟨v4, rfl, A4, c4, rfl, b4, o4⟩
      have hown3 := own_only HO.out O23.out (by simp)
      have hown4 := own_only hown3 o4 (by simp)
      have HO4 := Lib.hid hown4
      have ON4 := Lib.hid ((ON.out.trans0 O23.out).trans0 o4)
      have B4 := Lib.hid (B3.out.only o4 (by simp))
      have I4 := Lib.hid (is_own b4)
      have hA4 : ∀ b off q, A4 = some ⟨b, off, q⟩ → w3.heap.size ≤ b := fun b off q e => by
        obtain ⟨A', c', hvv, _, hge⟩ := own_slice b4
        cases hvv
        exact (hge b off q e).1
      have HA4 := Lib.hid hA4
      have HOB := Lib.hid (fun k (hk : _ = some k) => HO.out.lt k hk)
      clear b4 o4 hown3 hown4 hA4 x0
      go_wp2
      obtain ⟨S, hSdef⟩ : ∃ S : List Nat, (∀ k, Value.ownBlock u5 = some k → k ∈ S) ∧ (∀ b ∈ S, b < wr.heap.size) := ⟨(Value.ownBlock u5).toList, fun k hk => by rw [hk]; simp, fun b hb => (HOB.out b (by simpa using hb)).2⟩
      have HS1 := Lib.hid hSdef.1
      have HS2 := Lib.hid hSdef.2
      clear hSdef
      generalize wr.heap.size = bx at B4 S3 HS2 ⊢
      go_loopw [5, 26] (fun ov kv wq => ∃ m : Nat, m ≤ L.length ∧ kv = .int .i64 m ∧ wq.ownsRow w.heap.size 3 1 ov ((freeTo P c j) ++ (freeTo1 c j s m)).length (((freeTo P c j) ++ (freeTo1 c j s m)).map (Value.int .i64)) ∧ Only [] w wq ∧ Only S w4 wq ∧ ∀ k, Value.ownBlock ov = some k → k ∈ S ∨ w4.heap.size ≤ k) (fun _ kv _ => L.length - (intOf kv).toNat)
      case atStart => exact ⟨0, by omega, rfl, by simpa [freeTo1] using HO4.out, ON4.out, Only.refl _ _, fun k hk => .inl (HS1.out k hk)⟩
      case round =>
        obtain ⟨m, hm, rfl, ho5, on5, on45, hS5⟩ := hrel
        have HO5 := Lib.hid ho5
        have ON5 := Lib.hid on5
        have ON45 := Lib.hid on45
        have HS5 := Lib.hid hS5
        clear ho5 hS5
        by_cases hlm : m < L.length
        · have z1 : (0 : Int) ≤ (m : Int) := by omega
          have z2 : (m : Int) < (L.length : Int) := by omega
          have z3 : decide ((m : Int) < (L.length : Int)) = true := by rw [decide_eq_true_eq]; omega
          have z4 : (m : Int) < 8 := by omega
          have hI5 := I4.out.only on45 (fun b off q e hb => by have h1 := HA4.out b off q e; have h2 := HS2.out b hb; have h3 := S3.out; omega)
          obtain ⟨b4, off4, hAe, hcell⟩ := hI5.at_ (by omega)
          have xl := hcell m (by omega)
          rw [HLG.out m hlm] at xl
          have hB5 := B4.out.only on45 (fun hb => by have h2 := HS2.out _ hb; omega)
          have x0 : wr.cell? ⟨bx, 0, none⟩ = some (.int .i64 c) := by rw [hB5.cell, List.getElem?_toArray]; exact HC0.out
          have xm : wr.cell? ⟨bx, 1 + m, none⟩ = some (.bool (s.at m)) := by rw [hB5.cell, List.getElem?_toArray]; exact HCM.out m (by omega)
          have hfl := HFL.out m
          clear hcell hI5 hB5 on5 on45
          subst hAe
          by_cases hat : s.at m = false
          · have HY := Lib.hid (HYES.out m hat)
            rw [hat] at xm
            clear hat
            obtain ⟨A8, c8, w8, hr8, hw8, on8, on48, hS8⟩ := append_ownX (P := Try.prog) (wr.alloc (.cells #[.int .i64 (lineAt j m c)] 3)) (ON5.out.alloc _) (ON45.out.alloc _) 28 28 3 i0 _ 1 8 Try.underlying28 HI.out HZ0.out HZ1.out HZ2.out rfl (by omega) _ _ _ (HO5.out.alloc _) HS5.out ⟨wr.heap.size, 0, none⟩ 1 1 [.int .i64 (lineAt j m c)] rfl (new_cells (vs := [.int .i64 (lineAt j m c)])) (by intro u hu; simp at hu; subst hu; rfl) (by rw [List.length_append]; unfold maxLen; omega) (by rw [List.length_append]; omega)
            rw [show (((freeTo P c j) ++ (freeTo1 c j s m)).map (Value.int .i64)) ++ [.int .i64 (lineAt j m c)] = (((freeTo P c j) ++ ((freeTo1 c j s m) ++ [lineAt j m c])).map (Value.int .i64)) by simp, ← HY.out] at hw8
            have hle : ((freeTo P c j) ++ (freeTo1 c j s m)).length + 1 = ((freeTo P c j) ++ (freeTo1 c j s (m + 1))).length := by rw [HY.out]; simp; omega
            rw [hle] at hr8 hw8 hS8
            obtain ⟨M, hM⟩ : ∃ M, M = (freeTo P c j) ++ (freeTo1 c j s (m + 1)) := ⟨_, rfl⟩
            rw [← hM] at hr8 hw8 hS8
            have HM := Lib.hid hM
            clear hM
            have H8 := Lib.hid hw8
            have N8 := Lib.hid on8
            have N48 := Lib.hid on48
            have HS8 := Lib.hid hS8
            clear hw8 on8 on48 hS8 hle
            go_wp2_with (at_builtin; refine wpList_append_run _ rfl (.tmp 36) (.tmp 38) 28 rfl _ _ rfl rfl _ _ hr8 ?_)
            go_roundw
            · exact ⟨m + 1, by omega, by simp, by rw [← HM.out]; exact H8.out, N8.out, N48.out, HS8.out⟩
            · simp [intOf]
              omega
          · have hat2 : s.at m = true := by simpa using hat
            have HN := Lib.hid (HNON.out m hat2)
            rw [hat2] at xm
            clear hat hat2
            go_wp2
            go_roundw
            · exact ⟨m + 1, by omega, by simp, by rw [HN.out]; exact HO5.out, ON5.out, ON45.out, HS5.out⟩
            · simp [intOf]
              omega
        · obtain rfl : m = L.length := by omega
          have z3 : decide ((L.length : Int) < (L.length : Int)) = false := by simp
          clear on5 on45
          go_wp2
          go_roundw
          · exact ⟨j + 1, by omega, by simp, by rw [HTS.out, ← HLL.out]; exact HO5.out, ON5.out⟩
          · simp [intOf]
            omega
    · obtain rfl : j = n := by omega
      have y3 : decide ((j : Int) < (j : Int)) = false := by simp
      rw [← HFIN.out] at ho
      obtain ⟨A', c', rfl, _, _⟩ := own_slice ho
      have HO := Lib.hid ho
      have ON := Lib.hid on
      clear ho on
      go_wp2
      go_ret
      exact ⟨_, rfl, A', c', rfl, HO.out, ON.out⟩
set_option maxHeartbeats 2000000 in
theorem pool_Taken (g sb : Nat) (P : Pool) (w : World) (h : PoolAt w g sb P) (hP : Ok P) :
    Calls Try.prog 13 #[.pointer (some ⟨g, 0, none⟩)] w fun e w' => ∃ x, e = .returned x ∧ MadeT w (takenOf P) x w' := by
  have HA := Lib.hid (pool_all g sb P w h)
  have H := Lib.hid h
  have h32 := h.n32
  obtain ⟨i0, hi, hz0, hz1, hz2⟩ := info_parts Try.takenInfo
  have HI := Lib.hid hi
  have HZ0 := Lib.hid hz0
  have HZ1 := Lib.hid hz1
  have HZ2 := Lib.hid hz2
  obtain ⟨cz, hcz, hcc⟩ := slabZ0
  have HCZ := Lib.hid hcz
  have HCC := Lib.hid hcc
  have HPK := Lib.hid hP
  have HGET := Lib.hid (fun i (hi : i < P.length) => (⟨P[i], List.getElem?_eq_getElem hi⟩ : ∃ s, P[i]? = some s))
  have HFIN := Lib.hid (show (takenOf P) = (blocksTo P P.length) from rfl)
  clear hi hz0 hz1 hz2 hcz hcc h hP
  generalize hN : P.length = n at *
  clear hN
  go_enter Try.func13, Try.ntmps13
  go_wp2_with fail
  refine (HA.out).mono ?_
  rintro e w' ⟨rfl, rfl⟩
  go_wp2
  go_loopw [3, 11] (fun ov kv wr => ∃ j : Nat, j ≤ n ∧ kv = .int .i64 j ∧ wr.ownsRow w.heap.size 32 2 ov (blocksTo P j).length (tcells (blocksTo P j)) ∧ Only [] w wr) (fun _ kv _ => n - (intOf kv).toNat)
  case atStart => exact ⟨0, by omega, rfl, own_nil _ _ _ _, Only.refl _ _⟩
  case round =>
    obtain ⟨j, hj, rfl, ho, on⟩ := hrel
    by_cases hlt : j < n
    · have y1 : (0 : Int) ≤ (j : Int) := by omega
      have y2 : (j : Int) < (n : Int) := by omega
      have y3 : decide ((j : Int) < (n : Int)) = true := by rw [decide_eq_true_eq]; omega
      obtain ⟨s, hs⟩ := HGET.out j hlt
      have hp := H.out.only0 on
      have HRG := Lib.hid (hp.range hs)
      have hlen := cellsOf_length (hp.len s (List.mem_of_getElem? hs))
      have HLEN := Lib.hid hlen
      have HO := Lib.hid ho
      have ON := Lib.hid on
      have HONE := Lib.hid (cells_one s)
      have HC0 := Lib.hid (show (cellsOf s)[0]? = some (.int .i64 s.cls) from rfl)
      have HCM := Lib.hid (fun m (hm : m < 8) => show (cellsOf s)[1 + m]? = some (.bool (s.at m)) from (hp.cell hs (by omega)).symm.trans (by rw [← Nat.add_assoc]; exact hp.mark hs hm))
      have hcb := cls_bd HPK.out hs
      have HST := Lib.hid (fun w => class_Starts (j : Int) s.cls w (by omega))
      have hse := starts_eq (i := j) (c := s.cls) (by omega)
      have hm8 : many s.cls ≤ 8 := by have := many_cases s.cls; omega
      have HTS := Lib.hid (blocksTo_succ hs)
      have htl : (blocksTo P j).length ≤ 256 := by have := blocksTo_length P j; omega
      have HFL := Lib.hid (fun m => blocks1_length j s m)
      have HYES := Lib.hid (fun m (h : s.at m = true) => blocks1_yes (i := j) (m := m) (s := s) h)
      have HNON := Lib.hid (fun m (h : s.at m = false) => blocks1_no (i := j) (m := m) (s := s) h)
      have HALL := Lib.hid (blocks1_all j s)
      clear ho on hp hs hlen
      generalize cellsOf s = C at *
      rw [← HALL.out] at HTS
      generalize s.cls = cl at *
      have hLl : (starts (j : Int) cl).length = many cl := by rw [hse]; simp
      have HLG := Lib.hid (fun m (hm : m < (starts (j : Int) cl).length) => show (starts (j : Int) cl)[m] = lineAt j m cl by simp only [hse, List.getElem_map, List.getElem_range])
      generalize starts (j : Int) cl = L at *
      have HLL := Lib.hid hLl
      have hL8 : L.length ≤ 8 := by omega
      clear hse hm8 hcb hLl
      go_wp2_with (first | ((with_reducible show wpList _ _ _ (Oper.mk (some 15) _ _ _ _ _ :: _) _ _); refine wpList_load_mid rfl 63 (.tmp 14) rfl sb (j * 10) rfl C _ HRG.out Try.underlying63 rfl (by rw [HLEN.out]; exact slabSize) ?_) | ((with_reducible show wpList _ _ _ (Oper.mk (some 5) _ _ _ _ _ :: _) _ _); refine wpList_alloc_blk rfl 63 rfl cz HCZ.out ?_; intro w2 hb2 ho2 hs2; have B2 := Lib.hid hb2; have O2 := Lib.hid ho2; have S2 := Lib.hid hs2; clear hb2 ho2 hs2) | ((with_reducible show wpList _ _ _ (Oper.mk none _ _ _ _ _ :: _) _ _); refine wpList_store_all rfl 63 (.tmp 5) (.tmp 15) rfl wr.heap.size C.toArray rfl rfl _ _ B2.out (by rw [HCC.out, List.size_toArray, HLEN.out]; rfl) (by rw [List.size_toArray, HLEN.out]; exact slabSize) HONE.out ?_; intro w3 hb3 ho3; have B3 := Lib.hid hb3; have x0 : w3.cell? ⟨wr.heap.size, 0, none⟩ = some (.int .i64 cl) := (by rw [hb3.cell, List.getElem?_toArray]; exact HC0.out); have O23 := Lib.hid (O2.out.trans ho3 (by simp)); have S3 := Lib.hid (Nat.lt_of_lt_of_le (Nat.lt_of_lt_of_eq (Nat.lt_succ_self _) S2.out.symm) ho3.size); clear hb3 ho3))
      refine (HST.out _).mono ?_
      rintro e w4 ⟨v4, rfl, A4, c4, rfl, b4, o4⟩
      have hown3 := own_only HO.out O23.out (by simp)
      have hown4 := own_only hown3 o4 (by simp)
      have HO4 := Lib.hid hown4
      have ON4 := Lib.hid ((ON.out.trans0 O23.out).trans0 o4)
      have B4 := Lib.hid (B3.out.only o4 (by simp))
      have I4 := Lib.hid (is_own b4)
      have hA4 : ∀ b off q, A4 = some ⟨b, off, q⟩ → w3.heap.size ≤ b := fun b off q e => by
        obtain ⟨A', c', hvv, _, hge⟩ := own_slice b4
        cases hvv
        exact (hge b off q e).1
      have HA4 := Lib.hid hA4
      have HOB := Lib.hid (fun k (hk : _ = some k) => HO.out.lt k hk)
      clear b4 o4 hown3 hown4 hA4 x0
      go_wp2
      obtain ⟨S, hSdef⟩ : ∃ S : List Nat, (∀ k, Value.ownBlock u3 = some k → k ∈ S) ∧ (∀ b ∈ S, b < wr.heap.size) := ⟨(Value.ownBlock u3).toList, fun k hk => by rw [hk]; simp, fun b hb => (HOB.out b (by simpa using hb)).2⟩
      have HS1 := Lib.hid hSdef.1
      have HS2 := Lib.hid hSdef.2
      clear hSdef
      generalize wr.heap.size = bx at B4 S3 HS2 ⊢
      go_loopw [3, 21] (fun ov kv wq => ∃ m : Nat, m ≤ L.length ∧ kv = .int .i64 m ∧ wq.ownsRow w.heap.size 32 2 ov ((blocksTo P j) ++ (blocks1 j s m)).length (tcells ((blocksTo P j) ++ (blocks1 j s m))) ∧ Only [] w wq ∧ Only S w4 wq ∧ ∀ k, Value.ownBlock ov = some k → k ∈ S ∨ w4.heap.size ≤ k) (fun _ kv _ => L.length - (intOf kv).toNat)
      case atStart => exact ⟨0, by omega, rfl, by simpa [blocks1] using HO4.out, ON4.out, Only.refl _ _, fun k hk => .inl (HS1.out k hk)⟩
      case round =>
        obtain ⟨m, hm, rfl, ho5, on5, on45, hS5⟩ := hrel
        have HO5 := Lib.hid ho5
        have ON5 := Lib.hid on5
        have ON45 := Lib.hid on45
        have HS5 := Lib.hid hS5
        clear ho5 hS5
        by_cases hlm : m < L.length
        · have z1 : (0 : Int) ≤ (m : Int) := by omega
          have z2 : (m : Int) < (L.length : Int) := by omega
          have z3 : decide ((m : Int) < (L.length : Int)) = true := by rw [decide_eq_true_eq]; omega
          have z4 : (m : Int) < 8 := by omega
          have hI5 := I4.out.only on45 (fun b off q e hb => by have h1 := HA4.out b off q e; have h2 := HS2.out b hb; have h3 := S3.out; omega)
          obtain ⟨b4, off4, hAe, hcell⟩ := hI5.at_ (by omega)
          have xl := hcell m (by omega)
          rw [HLG.out m hlm] at xl
          have hB5 := B4.out.only on45 (fun hb => by have h2 := HS2.out _ hb; omega)
          have x0 : wr.cell? ⟨bx, 0, none⟩ = some (.int .i64 cl) := by rw [hB5.cell, List.getElem?_toArray]; exact HC0.out
          have xm : wr.cell? ⟨bx, 1 + m, none⟩ = some (.bool (s.at m)) := by rw [hB5.cell, List.getElem?_toArray]; exact HCM.out m (by omega)
          have hfl := HFL.out m
          clear hcell hI5 hB5 on5 on45
          subst hAe
          by_cases hat : s.at m = true
          · have HY := Lib.hid (HYES.out m hat)
            rw [hat] at xm
            clear hat
            obtain ⟨A8, c8, w8, hr8, hw8, on8, on48, hS8⟩ := append_ownX (P := Try.prog) (wr.alloc (.cells #[.int .i64 (lineAt j m cl), .int .i64 cl] 32)) (ON5.out.alloc _) (ON45.out.alloc _) 26 26 32 i0 _ 2 16 Try.underlying26 HI.out HZ0.out HZ1.out HZ2.out rfl (by omega) _ _ _ (HO5.out.alloc _) HS5.out ⟨wr.heap.size, 0, none⟩ 1 1 [.int .i64 (lineAt j m cl), .int .i64 cl] rfl (new_cells (vs := [.int .i64 (lineAt j m cl), .int .i64 cl])) (by intro u hu; simp at hu; rcases hu with rfl | rfl <;> rfl) (by rw [List.length_append]; unfold maxLen; omega) (by rw [List.length_append]; omega)
            rw [show (tcells ((blocksTo P j) ++ (blocks1 j s m))) ++ [.int .i64 (lineAt j m cl), .int .i64 cl] = (tcells ((blocksTo P j) ++ ((blocks1 j s m) ++ [(lineAt j m cl, cl)]))) by simp [tcells], ← HY.out] at hw8
            have hle : ((blocksTo P j) ++ (blocks1 j s m)).length + 1 = ((blocksTo P j) ++ (blocks1 j s (m + 1))).length := by rw [HY.out]; simp; omega
            rw [hle] at hr8 hw8 hS8
            obtain ⟨M, hM⟩ : ∃ M, M = (blocksTo P j) ++ (blocks1 j s (m + 1)) := ⟨_, rfl⟩
            rw [← hM] at hr8 hw8 hS8
            have HM := Lib.hid hM
            clear hM
            have H8 := Lib.hid hw8
            have N8 := Lib.hid on8
            have N48 := Lib.hid on48
            have HS8 := Lib.hid hS8
            clear hw8 on8 on48 hS8 hle
            go_wp2_with (at_builtin; refine wpList_append_run _ rfl (.tmp 30) (.tmp 35) 26 rfl _ _ rfl rfl _ _ hr8 ?_)
            go_roundw
            · exact ⟨m + 1, by omega, by simp, by rw [← HM.out]; exact H8.out, N8.out, N48.out, HS8.out⟩
            · simp [intOf]
              omega
          · have hat2 : s.at m = false := by simpa using hat
            have HN := Lib.hid (HNON.out m hat2)
            rw [hat2] at xm
            clear hat hat2
            go_wp2
            go_roundw
            · exact ⟨m + 1, by omega, by simp, by rw [HN.out]; exact HO5.out, ON5.out, ON45.out, HS5.out⟩
            · simp [intOf]
              omega
        · obtain rfl : m = L.length := by omega
          have z3 : decide ((L.length : Int) < (L.length : Int)) = false := by simp
          clear on5 on45
          go_wp2
          go_roundw
          · exact ⟨j + 1, by omega, by simp, by rw [HTS.out, ← HLL.out]; exact HO5.out, ON5.out⟩
          · simp [intOf]
            omega
    · obtain rfl : j = n := by omega
      have y3 : decide ((j : Int) < (j : Int)) = false := by simp
      rw [← HFIN.out] at ho
      obtain ⟨A', c', rfl, _, _⟩ := own_slice ho
      have HO := Lib.hid ho
      have ON := Lib.hid on
      clear ho on
      go_wp2
      go_ret
      exact ⟨_, rfl, A', c', rfl, HO.out, ON.out⟩
end Go.Proofs.Ytpenmnngjfncgaa
