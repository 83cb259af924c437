/- The reference of chapter 7: Give, Slabs, New. -/
import Derived.Test.YtpenmnngjfncgaaPoolT
namespace Go.Proofs.Ytpenmnngjfncgaa
open Go.RowKit Go.Proofs.FuMem Go.Proofs.FuClass Go.Proofs.FuPool
set_option maxRecDepth 100000
theorem give_some {P : Pool} {line : Int} (h : (ofA P line).2 = true) : ∃ i k, blockAt P line = some (i, k) := by
  unfold ofA at h
  cases hb : blockAt P line with
  | none => rw [hb] at h; cases h
  | some x => exact ⟨x.1, x.2, rfl⟩
theorem give_none {P : Pool} {line : Int} (h : (ofA P line).2 = false) : blockAt P line = none := by
  unfold ofA at h
  cases hb : blockAt P line with
  | none => rfl
  | some x => rw [hb] at h; cases h
theorem filter_succ {l : List (Int × Int)} {j : Nat} {y : Int × Int} (hy : l[j]? = some y) (line : Int) : (l.take (j + 1)).filter (fun x => decide (x.1 ≠ line)) = (l.take j).filter (fun x => decide (x.1 ≠ line)) ++ (if y.1 = line then [] else [y]) := by
  rw [List.take_add_one, hy, List.filter_append]
  congr 1
  by_cases h : y.1 = line
  · simp [h]
  · simp [h]
set_option maxHeartbeats 1000000 in
theorem ref7_Give (X : List Nat) (rg : Nat) (P : Pool) (line : Int) (w : World) (h : RefAt w X rg P.length (takenOf P)) (hX : ∀ b ∈ X, b < w.heap.size) (hP : Ok P) (h32 : P.length ≤ 32) :
    Calls Try.prog 29 #[.pointer (some ⟨rg, 0, none⟩), .int .i64 line] w fun e w' => e = .returned (.int .i64 (giveA P line)) ∧ RefAt w' X rg P.length (takenOf (giveP P line)) ∧ Only [rg] w w' := by
  have HOF := Lib.hid (ref7_Of X rg P line w h hP h32)
  have HREF := Lib.hid h
  by_cases hof : (ofA P line).2 = true
  case neg =>
    have hof2 : (ofA P line).2 = false := by simpa using hof
    have hbn := give_none hof2
    have HE := Lib.hid (show giveA P line = 1 by unfold giveA; rw [hbn])
    have HP := Lib.hid (show giveP P line = P by unfold giveP; rw [hbn])
    rw [hof2] at HOF
    generalize (ofA P line).1 = cl at *
    clear h hof hof2 hbn
    go_enter Try.func29, Try.ntmps29
    go_wp2_with fail
    refine (HOF.out).mono ?_
    rintro e w' ⟨rfl, rfl⟩
    go_wp2
    go_ret
    exact ⟨by rw [HE.out]; rfl, by rw [HP.out]; exact HREF.out, Only.refl _ _⟩
  obtain ⟨i, k, hbl⟩ := give_some hof
  have HE := Lib.hid (show giveA P line = 0 by unfold giveA; rw [hbl])
  have HTG := Lib.hid (taken_give hP h32 hbl)
  rw [hof] at HOF
  obtain ⟨i0, hi, hz0, hz1, hz2⟩ := info_parts Try.takenInfo
  have APP := Lib.hid (fun w w0 on v L hL hown x => append_taken w (w0 := w0) i0 hi hz0 hz1 hz2 on v L hL hown x)
  have hln : (takenOf P).length ≤ 256 := by have := blocksTo_length P P.length; unfold takenOf; omega
  obtain ⟨hrX, A, n, cc, hb, ht, _⟩ := h
  have hl : (takenOf P).length = n := ht.1
  have NEW := Lib.hid (fun w' A2 l2 c2 on ho => new_ref (tR := 77) (w' := w') (A2 := A2) (l2 := l2) (c2 := c2) hX hrX hb on ho)
  rw [HTG.out]
  generalize takenOf P = l at *
  generalize P.length = N at *
  generalize (ofA P line).1 = cl at *
  have HBK := Lib.hid hb
  have HT := Lib.hid ht
  have HL := Lib.hid hl
  have hn256 : n ≤ 256 := by omega
  have HFS := Lib.hid (fun j y (hy : l[j]? = some y) => filter_succ hy line)
  have HFL := Lib.hid (fun j => (List.length_filter_le (fun x : Int × Int => decide (x.1 ≠ line)) (l.take j)))
  have hfin : (l.take n).filter (fun x => decide (x.1 ≠ line)) = l.filter (fun x => decide (x.1 ≠ line)) := by rw [List.take_of_length_le (by omega)]
  have HFIN := Lib.hid hfin
  have h0 : (l.take 0).filter (fun x => decide (x.1 ≠ line)) = [] := by simp
  have H0 := Lib.hid h0
  obtain ⟨F, hF⟩ : ∃ F : Nat → List (Int × Int), F = fun j => (l.take j).filter (fun x => decide (x.1 ≠ line)) := ⟨_, rfl⟩
  have hFj : ∀ j, (l.take j).filter (fun x => decide (x.1 ≠ line)) = F j := fun j => by rw [hF]
  simp only [hFj] at HFS HFL HFIN H0
  generalize l.filter (fun x => decide (x.1 ≠ line)) = R at *
  clear hb ht hl hi hz0 hz1 hz2 hX hrX hof hbl hfin h0 hF hFj
  go_enter Try.func29, Try.ntmps29
  go_wp2_with fail
  refine (HOF.out).mono ?_
  rintro e w' ⟨rfl, rfl⟩
  go_wp2
  go_loopw [7, 8] (fun ov kv wr => ∃ j : Nat, j ≤ n ∧ kv = .int .i64 j ∧ wr.ownsRow w.heap.size 32 2 ov (F j).length (tcells (F j)) ∧ Only [] w wr) (fun _ kv _ => n - (intOf kv).toNat)
  case atStart => exact ⟨0, by omega, rfl, by rw [H0.out]; exact own_nil _ _ _ _, Only.refl _ _⟩
  case round =>
    obtain ⟨j, hj, rfl, ho, on⟩ := hrel
    have hfl : (F j).length ≤ 300 := by have := HFL.out j; rw [List.length_take] at this; omega
    have xr : wr.cell? ⟨rg, 1, none⟩ = some (.slice A n cc) := (HBK.out.only on (by simp)).cell 1
    by_cases hlt : j < n
    · have y1 : (0 : Int) ≤ (j : Int) := by omega
      have y2 : (j : Int) < (n : Int) := by omega
      have y3 : decide ((j : Int) < (n : Int)) = true := by rw [decide_eq_true_eq]; omega
      obtain ⟨y, hy⟩ : ∃ y, l[j]? = some y := ⟨_, List.getElem?_eq_getElem (by have := HL.out; omega)⟩
      rcases (HT.out.only0 on).2 with h0 | ⟨b, off, hAe, hcell⟩
      · omega
      obtain ⟨c0, c1⟩ := hcell j y hy
      have hfs := HFS.out j y hy
      by_cases he : y.1 = line
      · rw [if_pos he, List.append_nil] at hfs
        have q1 : (y.1 != line) = false := by rw [bne_eq_false_iff_eq]; exact he
        have FS := Lib.hid hfs
        have ON := Lib.hid on
        have HO := Lib.hid ho
        generalize y.1 = ya at *
        subst hAe
        clear hcell hy ho on hfs hfl he
        go_wp2
        go_roundw
        · exact ⟨j + 1, by omega, by simp, by rw [FS.out]; exact HO.out, ON.out⟩
        · simp [intOf]
          omega
      · rw [if_neg he] at hfs
        obtain ⟨A8, c8, w8, hr8, hw8, on8⟩ := APP.out wr w on _ (F j) (by omega) ho y
        rw [← hfs] at hr8 hw8
        have q1 : (y.1 != line) = true := by rw [bne_iff_ne]; exact he
        have H8 := Lib.hid hw8
        have N8 := Lib.hid on8
        obtain ⟨M, hM⟩ : ∃ M, M = F (j + 1) := ⟨_, rfl⟩
        rw [← hM] at hr8 H8
        have HM := Lib.hid hM
        obtain ⟨ya, yb⟩ := y
        simp only at c0 c1 q1 hr8
        subst hAe
        clear hcell hy hw8 on8 ho on hM hfs hfl he
        go_wp2_with ((at_builtin; refine wpList_append_run _ rfl (.tmp 36) (.tmp 44) 26 rfl _ _ rfl rfl _ _ hr8 ?_))
        go_roundw
        · exact ⟨j + 1, by omega, by simp, by rw [← HM.out]; exact H8.out, N8.out⟩
        · simp [intOf]
          omega
    · obtain rfl : j = n := by omega
      have y3 : decide ((j : Int) < (j : Int)) = false := by simp
      rw [HFIN.out] at ho
      obtain ⟨A2, c2, hv, _, _⟩ := own_slice ho
      subst hv
      have NW := Lib.hid (NEW.out wr A2 R c2 on ho)
      have fr : wr.frozen? ⟨rg, 1, none⟩ = false := (HBK.out.only on (by simp)).frozen 1
      clear ho on hfl
      go_wp2
      go_ret
      exact ⟨by rw [HE.out]; rfl, NW.out.1, NW.out.2⟩
set_option maxHeartbeats 800000 in
theorem ref7_Slabs (X : List Nat) (rg : Nat) (P : Pool) (w : World) (h : RefAt w X rg P.length (takenOf P)) (hP : Ok P) (h32 : P.length ≤ 32) :
    Calls Try.prog 50 #[.pointer (some ⟨rg, 0, none⟩)] w fun e w' => ∃ x, e = .returned x ∧ MadeI w (slabsOf P) x w' := by
  have HCL := Lib.hid (fun w i s (h : RefAt w X rg P.length (takenOf P)) (hs : P[i]? = some s) => ref7_Class X rg P i s w h hP h32 hs)
  obtain ⟨i0, hi, hz0, hz1, hz2⟩ := info_parts Try.intInfo
  have HI := Lib.hid hi
  have HZ0 := Lib.hid hz0
  have HZ1 := Lib.hid hz1
  have HZ2 := Lib.hid hz2
  have HREF := Lib.hid h
  have HX0 := Lib.hid (fun w (h : RefAt w X rg P.length (takenOf P)) => (show w.cell? ⟨rg, 0, none⟩ = some (.int .i64 P.length) by
    obtain ⟨_, A, n, c, hb, _⟩ := h
    exact hb.cell 0))
  have HALL := Lib.hid (slabs_all P)
  have HGET := Lib.hid (fun i (hi : i < P.length) => (⟨P[i], List.getElem?_eq_getElem hi⟩ : ∃ s, P[i]? = some s))
  clear hi hz0 hz1 hz2 h hP
  generalize takenOf P = l at *
  generalize hN : P.length = n at *
  clear hN
  go_enter Try.func50, Try.ntmps50
  go_wp2
  go_loopw [3, 4] (fun ov kv wr => ∃ j : Nat, j ≤ n ∧ kv = .int .i64 j ∧ wr.ownsRow w.heap.size 3 1 ov j (((P.take j).map Slab.cls).map (.int .i64)) ∧ Only [] w wr) (fun _ kv _ => n - (intOf kv).toNat)
  case atStart => exact ⟨0, by omega, rfl, by simpa using own_nil _ _ _ _, Only.refl _ _⟩
  case round =>
    obtain ⟨j, hj, rfl, ho, on⟩ := hrel
    have x0 := HX0.out wr (HREF.out.only0 on)
    by_cases hlt : j < n
    · have y3 : decide ((j : Int) < (n : Int)) = true := by rw [decide_eq_true_eq]; omega
      obtain ⟨s, hs⟩ := HGET.out j hlt
      have HC := Lib.hid (HCL.out wr j s (HREF.out.only0 on) hs)
      have HSU := Lib.hid (slabs_succ hs)
      have HO := Lib.hid ho
      have ON := Lib.hid on
      clear ho on hs
      generalize s.cls = cl at *
      go_wp2_with fail
      refine HC.out.mono ?_
      rintro e w' ⟨rfl, rfl⟩
      go_wp2_with (at_builtin; obtain ⟨A8, c8, w8, hr8, hw8, hs8, on8⟩ := append_own (P := Try.prog) (wr.alloc (.cells #[.int .i64 cl] 3)) (ON.out.alloc _) 28 28 3 i0 _ 8 Try.underlying28 HI.out HZ0.out HZ1.out HZ2.out rfl _ j _ (HO.out.alloc _) (some ⟨wr.heap.size, 0, none⟩) 1 1 [.int .i64 cl] (cell_new1 _ _ _) (ints_new1 _ _) (by unfold maxLen; omega) (by omega); rw [HSU.out] at hw8; have H8 := Lib.hid hw8; have N8 := Lib.hid on8; clear hw8 hs8 on8; refine wpList_append_run _ rfl (.tmp 13) (.tmp 17) 28 rfl _ _ rfl rfl _ _ hr8 ?_)
      go_roundw
      · exact ⟨j + 1, by omega, by simp, H8.out, N8.out⟩
      · simp [intOf]
        omega
    · obtain rfl : j = n := by omega
      have y3 : decide ((j : Int) < (j : Int)) = false := by simp
      rw [HALL.out] at ho
      obtain ⟨A', c', rfl, _, _⟩ := own_slice ho
      have HO := Lib.hid ho
      have ON := Lib.hid on
      have hln : (slabsOf P).length = j := by simpa using ho.1
      have HLN := Lib.hid hln
      clear ho on hln
      go_wp2
      go_ret
      exact ⟨_, rfl, madeI_own HLN.out HO.out ON.out⟩
theorem ref7_New_no (n : Int) (w : World) (h : n < 1 ∨ 32 < n) :
    Calls Try.prog 26 #[.int .i64 n] w fun e w' => e = .returned (.tuple #[.pointer none, .int .i64 2]) ∧ w = w' := by
  by_cases h1 : n < 1
  · clear h
    go_enter Try.func26, Try.ntmps26
    go_wp2
    go_ret2
    exact ⟨rfl, rfl⟩
  · have h2 : 32 < n := by omega
    clear h
    go_enter Try.func26, Try.ntmps26
    go_wp2
    go_ret2
    exact ⟨rfl, rfl⟩
theorem ref7_New (n : Nat) (X : List Nat) (w : World) (h1 : 1 ≤ n) (h2 : n ≤ 32) (hX : ∀ b ∈ X, b < w.heap.size) :
    Calls Try.prog 26 #[.int .i64 n] w fun e w' => ∃ rg, e = .returned (.tuple #[.pointer (some ⟨rg, 0, none⟩), .int .i64 0]) ∧ RefAt w' X rg n [] ∧ Only [] w w' ∧ w.heap.size ≤ rg := by
  have on : Only [] w (w.alloc (.cells #[.int .i64 n, .slice none 0 0] 77)) := (Only.refl _ _).alloc _
  have hb := Blk.new w 77 #[.int .i64 n, .slice none 0 0]
  have HR : Hid (RefAt (w.alloc (.cells #[.int .i64 n, .slice none 0 0] 77)) X w.heap.size n []) := Lib.hid ⟨fun hm => by have := hX _ hm; omega, none, 0, 0, hb, ⟨rfl, .inl rfl⟩, fun b off q e => by cases e⟩
  have ON := Lib.hid on
  have q1 : decide ((n : Int) < 1) = false := by rw [decide_eq_false_iff_not]; omega
  have q2 : decide ((32 : Int) < (n : Int)) = false := by rw [decide_eq_false_iff_not]; omega
  clear on hb hX
  go_enter Try.func26, Try.ntmps26
  go_wp2
  go_ret2
  exact ⟨w.heap.size, rfl, HR.out, ON.out, Nat.le_refl _⟩
end Go.Proofs.Ytpenmnngjfncgaa
