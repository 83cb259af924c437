/- The reference of chapter 7: put, Give. -/
import Derived.Test.YtpenmnngjfncgaaPoolS
namespace Go.Proofs.FuPool
open Go.RowKit Go.Proofs.FuMem Go.Proofs.FuClass
/-- the list behind j rounds of put -/
def insTo (l : List (Int × Int)) (x : Int × Int) (j : Nat) : List (Int × Int) := if j ≤ upTo l x.1 then l.take j else l.take (upTo l x.1) ++ [x] ++ (l.drop (upTo l x.1)).take (j - upTo l x.1)
theorem insTo_low {l : List (Int × Int)} {x y : Int × Int} {j : Nat} (hj : j < upTo l x.1) (hy : l[j]? = some y) : insTo l x (j + 1) = insTo l x j ++ [y] := by
  unfold insTo
  rw [if_pos (by omega), if_pos (by omega), List.take_add_one, hy]
  rfl
theorem insTo_mid {l : List (Int × Int)} {x y : Int × Int} {j : Nat} (hj : j = upTo l x.1) (hy : l[j]? = some y) : insTo l x (j + 1) = (insTo l x j ++ [x]) ++ [y] := by
  unfold insTo
  rw [if_neg (by omega), if_pos (by omega), ← hj, show j + 1 - j = 1 by omega]
  congr 1
  have : j < l.length := (List.getElem?_eq_some_iff.1 hy).1
  rw [List.drop_eq_getElem_cons this, List.take_succ_cons, List.take_zero, (List.getElem?_eq_some_iff.1 hy).2]
theorem insTo_high {l : List (Int × Int)} {x y : Int × Int} {j : Nat} (hj : upTo l x.1 < j) (hy : l[j]? = some y) : insTo l x (j + 1) = insTo l x j ++ [y] := by
  unfold insTo
  rw [if_neg (by omega), if_neg (by omega), show j + 1 - upTo l x.1 = (j - upTo l x.1) + 1 by omega, List.take_add_one, List.getElem?_drop, show upTo l x.1 + (j - upTo l x.1) = j by omega, hy]
  simp
theorem insTo_end {l : List (Int × Int)} {x : Int × Int} (h : upTo l x.1 < l.length) : insTo l x l.length = ins l x := by
  unfold insTo ins
  rw [if_neg (by omega), show (l.drop (upTo l x.1)).take (l.length - upTo l x.1) = l.drop (upTo l x.1) from List.take_of_length_le (by rw [List.length_drop]; exact Nat.le_refl _)]
theorem insTo_last {l : List (Int × Int)} {x : Int × Int} (h : upTo l x.1 = l.length) : insTo l x l.length ++ [x] = ins l x := by
  unfold insTo ins
  rw [if_pos (by omega), h, List.drop_length]
  simp
theorem insTo_length (l : List (Int × Int)) (x : Int × Int) (j : Nat) (hj : j ≤ l.length) : (insTo l x j).length ≤ l.length + 1 := by
  have := upTo_le l x.1
  unfold insTo
  split
  · rw [List.length_take]; omega
  · rw [List.length_append, List.length_append, List.length_take, List.length_take, List.length_drop, List.length_singleton]; omega
end Go.Proofs.FuPool
namespace Go.Proofs.Ytpenmnngjfncgaa
open Go.RowKit Go.Proofs.FuMem Go.Proofs.FuClass Go.Proofs.FuPool
set_option maxRecDepth 100000
theorem append_taken (w : World) {w0 : World} (i0 : TypeInfo) (hi : Try.prog.info? 32 = some i0) (hz0 : i0.zero = some (.agg #[.int .i64 0, .int .i64 0])) (hz1 : i0.size = 2) (hz2 : i0.bytes = 16) (on : Only [] w0 w) (v : Value) (L : List (Int × Int)) (hL : L.length ≤ 1000) (hown : w.ownsRow w0.heap.size 32 2 v L.length (tcells L)) (x : Int × Int) :
    ∃ A' c' w', (Builtin.append_ #[26, 26] 26 #[v, .slice (some ⟨w.heap.size, 0, none⟩) 1 1]).run Try.prog (w.alloc (.cells #[.int .i64 x.1, .int .i64 x.2] 32)) = .ok (.slice A' (L ++ [x]).length c') w' ∧
      w'.ownsRow w0.heap.size 32 2 (.slice A' (L ++ [x]).length c') (L ++ [x]).length (tcells (L ++ [x])) ∧ Only [] w0 w' := by
  obtain ⟨A', c', w', hr, ho, on'⟩ := append_ownS (P := Try.prog) (w.alloc (.cells #[.int .i64 x.1, .int .i64 x.2] 32)) (on.alloc _) 26 26 32 i0 _ 2 16 Try.underlying26 hi hz0 hz1 hz2 rfl (by omega) _ _ _ (hown.alloc _) ⟨w.heap.size, 0, none⟩ 1 1 [.int .i64 x.1, .int .i64 x.2] rfl (new_cells (vs := [.int .i64 x.1, .int .i64 x.2])) (by intro u hu; simp at hu; rcases hu with rfl | rfl <;> rfl) (by unfold maxLen; omega) (by omega)
  rw [show tcells L ++ [.int .i64 x.1, .int .i64 x.2] = tcells (L ++ [x]) by simp [tcells]] at ho
  rw [show L.length + 1 = (L ++ [x]).length by simp] at hr ho
  exact ⟨A', c', w', hr, ho, on'⟩
theorem new_ref {tR : TypeId} {w w' : World} {X : List Nat} {rg N n c c2 : Nat} {A A2 : Option Addr} {l2 : List (Int × Int)} (hX : ∀ b ∈ X, b < w.heap.size) (h0 : rg ∉ X) (hb : Blk w rg tR #[.int .i64 N, .slice A n c]) (on : Only [] w w') (ho : w'.ownsRow w.heap.size 32 2 (.slice A2 l2.length c2) l2.length (tcells l2)) :
    IsRef tR (w'.setCell ⟨rg, 1, none⟩ (.slice A2 l2.length c2)) X rg N l2 ∧ Only [rg] w (w'.setCell ⟨rg, 1, none⟩ (.slice A2 l2.length c2)) := by
  have hrg := hb.lt
  have hb2 := (hb.only on (by simp)).set 1 (.slice A2 l2.length c2)
  have hsc : Only [rg] w' (w'.setCell ⟨rg, 1, none⟩ (.slice A2 l2.length c2)) := (Only.refl _ _).setCell (.inl (by simp)) _
  have hge : ∀ b off q, A2 = some ⟨b, off, q⟩ → w.heap.size ≤ b := fun b off q e => by
    obtain ⟨A', c', hvv, _, hge⟩ := own_slice ho
    cases hvv
    exact (hge b off q e).1
  refine ⟨⟨h0, A2, l2.length, c2, hb2, (ts_own ho rfl).only hsc (fun b off q e hm => ?_), fun b off q e => ⟨fun hm => ?_, ?_⟩⟩, (on.mono (T := [rg]) (by simp)).trans hsc (by intro b hb; exact .inl hb)⟩
  · have := hge b off q e
    simp at hm
    omega
  · have h1 := hge b off q e
    have h2 := hX b hm
    omega
  · have := hge b off q e
    omega
set_option maxHeartbeats 1500000 in
theorem ref7_put (X : List Nat) (rg N : Nat) (l : List (Int × Int)) (line c : Int) (w : World) (h : RefAt w X rg N l) (hX : ∀ b ∈ X, b < w.heap.size) (hln : l.length ≤ 256) :
    Calls Try.prog 46 #[.pointer (some ⟨rg, 0, none⟩), .int .i64 line, .int .i64 c] w fun e w' => e = .returned (.tuple #[]) ∧ RefAt w' X rg N (ins l (line, c)) ∧ Only [rg] w w' := by
  obtain ⟨i0, hi, hz0, hz1, hz2⟩ := info_parts Try.takenInfo
  have APP := Lib.hid (fun w w0 on v L hL hown x => append_taken w (w0 := w0) i0 hi hz0 hz1 hz2 on v L hL hown x)
  obtain ⟨hrX, A, n, cc, hb, ht, _⟩ := h
  have hl : l.length = n := ht.1
  have NEW := Lib.hid (fun w' A2 l2 c2 on ho => new_ref (tR := 77) (w' := w') (A2 := A2) (l2 := l2) (c2 := c2) hX hrX hb on ho)
  have HBK := Lib.hid hb
  have HT := Lib.hid ht
  have HL := Lib.hid hl
  have hn256 : n ≤ 256 := by omega
  have HLOW := Lib.hid (fun j y (hj : j < upTo l line) (hy : l[j]? = some y) => insTo_low (x := (line, c)) hj hy)
  have HMID := Lib.hid (fun j y (hj : j = upTo l line) (hy : l[j]? = some y) => insTo_mid (x := (line, c)) hj hy)
  have HHIG := Lib.hid (fun j y (hj : upTo l line < j) (hy : l[j]? = some y) => insTo_high (x := (line, c)) hj hy)
  have HEND := Lib.hid (fun (h : upTo l line < l.length) => insTo_end (x := (line, c)) h)
  have HLAS := Lib.hid (fun (h : upTo l line = l.length) => insTo_last (x := (line, c)) h)
  have HLT := Lib.hid (fun j y (hj : j < upTo l line) (hy : l[j]? = some y) => upTo_lt hj hy)
  have HAT := Lib.hid (fun y (hy : l[upTo l line]? = some y) => upTo_at hy)
  have HLEN := Lib.hid (fun j (hj : j ≤ l.length) => insTo_length l (line, c) j hj)
  have hpn : upTo l line ≤ n := by have := upTo_le l line; omega
  have h0 : insTo l (line, c) 0 = [] := by unfold insTo; rw [if_pos (Nat.zero_le _), List.take_zero]
  have H0 := Lib.hid h0
  generalize insTo l (line, c) = F at *
  generalize ins l (line, c) = R at *
  generalize upTo l line = p at *
  clear hb ht hl hi hz0 hz1 hz2 h0 hX hrX
  go_enter Try.func46, Try.ntmps46
  go_wp2
  go_loopw [6, 7, 8] (fun ov inv kv wr => ∃ j : Nat, j ≤ n ∧ kv = .int .i64 j ∧ inv = .bool (decide (p < j)) ∧ wr.ownsRow w.heap.size 32 2 ov (F j).length (tcells (F j)) ∧ Only [] w wr) (fun _ _ kv _ => n - (intOf kv).toNat)
  case atStart => exact ⟨0, by omega, rfl, by simp, by rw [H0.out]; exact own_nil _ _ _ _, Only.refl _ _⟩
  case round =>
    obtain ⟨j, hj, rfl, rfl, ho, on⟩ := hrel
    have hfl := HLEN.out j (by have := HL.out; omega)
    have xr : wr.cell? ⟨rg, 1, none⟩ = some (.slice A n cc) := (HBK.out.only on (by simp)).cell 1
    by_cases hlt : j < n
    · have y1 : (0 : Int) ≤ (j : Int) := by omega
      have y2 : (j : Int) < (n : Int) := by omega
      have y3 : decide ((j : Int) < (n : Int)) = true := by rw [decide_eq_true_eq]; omega
      obtain ⟨y, hy⟩ : ∃ y, l[j]? = some y := ⟨_, List.getElem?_eq_getElem (by have := HL.out; omega)⟩
      rcases (HT.out.only0 on).2 with h0 | ⟨b, off, hAe, hcell⟩
      · omega
      obtain ⟨c0, c1⟩ := hcell j y hy
      have ON := Lib.hid on
      have HO := Lib.hid ho
      rcases Nat.lt_trichotomy j p with hjp | hjp | hjp
      · obtain ⟨A8, c8, w8, hr8, hw8, on8⟩ := APP.out wr w on _ (F j) (by omega) ho y
        rw [← HLOW.out j y hjp hy] at hr8 hw8
        have q1 : decide (y.1 > line) = false := by rw [decide_eq_false_iff_not]; have := HLT.out j y hjp hy; omega
        have q1b : decide (line < y.1) = false := q1
        have q2 : decide (p < j) = false := by rw [decide_eq_false_iff_not]; omega
        have Q3 := Lib.hid (show false = decide (p < j + 1) by symm; rw [decide_eq_false_iff_not]; omega)
        have H8 := Lib.hid hw8
        have N8 := Lib.hid on8
        obtain ⟨M, hM⟩ : ∃ M, M = F (j + 1) := ⟨_, rfl⟩
        rw [← hM] at hr8 H8
        have HM := Lib.hid hM
        obtain ⟨ya, yb⟩ := y
        simp only at c0 c1 q1 q1b hr8
        subst hAe
        clear hcell hy hw8 on8 ho on hM hfl hjp
        go_wp2_with ((at_builtin; refine wpList_append_run _ rfl (.tmp 38) (.tmp 46) 26 rfl _ _ rfl rfl _ _ hr8 ?_))
        go_roundw
        · exact ⟨j + 1, by omega, by simp, by rw [← Q3.out], by rw [← HM.out]; exact H8.out, N8.out⟩
        · simp [intOf]
          omega
      · subst hjp
        obtain ⟨A7, c7, w7, hr7, hw7, on7⟩ := APP.out wr w on _ (F j) (by omega) ho (line, c)
        have hlen7 : (F j ++ [(line, c)]).length ≤ 1000 := by simp; omega
        obtain ⟨A8, c8, w8, hr8, hw8, on8⟩ := APP.out w7 w on7 _ (F j ++ [(line, c)]) hlen7 hw7 y
        rw [← HMID.out j y rfl hy] at hr8 hw8
        rcases (HT.out.only0 on7).2 with h0 | ⟨b', off', hAe', hcell'⟩
        · omega
        rw [hAe] at hAe'
        cases hAe'
        obtain ⟨e0, e1⟩ := hcell' j y hy
        have xr7 : w7.cell? ⟨rg, 1, none⟩ = some (.slice A n cc) := (HBK.out.only on7 (by simp)).cell 1
        have q1 : decide (y.1 > line) = true := by rw [decide_eq_true_eq]; have := HAT.out y hy; omega
        have q1b : decide (line < y.1) = true := q1
        have q2 : decide (j < j) = false := by simp
        have Q3 := Lib.hid (show true = decide (j < j + 1) by symm; rw [decide_eq_true_eq]; omega)
        have H8 := Lib.hid hw8
        have N8 := Lib.hid on8
        obtain ⟨M, hM⟩ : ∃ M, M = F (j + 1) := ⟨_, rfl⟩
        rw [← hM] at hr8 H8
        have HM := Lib.hid hM
        obtain ⟨M7, hM7⟩ : ∃ M7, M7 = F j ++ [(line, c)] := ⟨_, rfl⟩
        rw [← hM7] at hr7 hr8
        obtain ⟨ya, yb⟩ := y
        simp only at c0 c1 e0 e1 q1 q1b hr7 hr8
        subst hAe
        clear hcell hcell' hy hw8 on8 hw7 on7 ho on hM hM7 hfl hlen7
        go_wp2_with (first | (at_builtin; refine wpList_append_run _ rfl (.tmp 38) (.tmp 46) 26 rfl _ _ rfl rfl _ _ hr8 ?_) | (at_builtin; refine wpList_append_run _ rfl (.tmp 32) (.tmp 36) 26 rfl _ _ rfl rfl _ _ hr7 ?_))
        go_roundw
        · exact ⟨j + 1, by omega, by simp, by rw [← Q3.out], by rw [← HM.out]; exact H8.out, N8.out⟩
        · simp [intOf]
          omega
      · obtain ⟨A8, c8, w8, hr8, hw8, on8⟩ := APP.out wr w on _ (F j) (by omega) ho y
        rw [← HHIG.out j y hjp hy] at hr8 hw8
        have q2 : decide (p < j) = true := by rw [decide_eq_true_eq]; omega
        have Q3 := Lib.hid (show true = decide (p < j + 1) by symm; rw [decide_eq_true_eq]; omega)
        have H8 := Lib.hid hw8
        have N8 := Lib.hid on8
        obtain ⟨M, hM⟩ : ∃ M, M = F (j + 1) := ⟨_, rfl⟩
        rw [← hM] at hr8 H8
        have HM := Lib.hid hM
        obtain ⟨ya, yb⟩ := y
        simp only at c0 c1 hr8
        subst hAe
        clear hcell hy hw8 on8 ho on hM hfl hjp
        go_wp2_with ((at_builtin; refine wpList_append_run _ rfl (.tmp 38) (.tmp 46) 26 rfl _ _ rfl rfl _ _ hr8 ?_))
        go_roundw
        · exact ⟨j + 1, by omega, by simp, by rw [← Q3.out], by rw [← HM.out]; exact H8.out, N8.out⟩
        · simp [intOf]
          omega
    · obtain rfl : j = n := by omega
      have y3 : decide ((j : Int) < (j : Int)) = false := by simp
      by_cases hpj : p < j
      · have q2 : decide (p < j) = true := by rw [decide_eq_true_eq]; exact hpj
        have hfe := HEND.out (by have := HL.out; omega)
        rw [HL.out] at hfe
        rw [hfe] at ho
        obtain ⟨A2, c2, hv, _, _⟩ := own_slice ho
        subst hv
        have NW := Lib.hid (NEW.out wr A2 R c2 on ho)
        have fr : wr.frozen? ⟨rg, 1, none⟩ = false := (HBK.out.only on (by simp)).frozen 1
        clear ho on hfe hfl hpj
        go_wp2
        go_end0
        exact ⟨rfl, NW.out.1, NW.out.2⟩
      · have q2 : decide (p < j) = false := by rw [decide_eq_false_iff_not]; exact hpj
        obtain ⟨A8, c8, w8, hr8, hw8, on8⟩ := APP.out wr w on _ (F j) (by omega) ho (line, c)
        have hfe := HLAS.out (by have := HL.out; omega)
        rw [HL.out] at hfe
        rw [hfe] at hr8 hw8
        have NW := Lib.hid (NEW.out w8 A8 R c8 on8 hw8)
        have xr8 : w8.cell? ⟨rg, 1, none⟩ = some (.slice A j cc) := (HBK.out.only on8 (by simp)).cell 1
        have fr : w8.frozen? ⟨rg, 1, none⟩ = false := (HBK.out.only on8 (by simp)).frozen 1
        simp only at hr8
        clear ho on hw8 on8 hfe hfl hpj
        go_wp2_with ((at_builtin; refine wpList_append_run _ rfl (.tmp 50) (.tmp 54) 26 rfl _ _ rfl rfl _ _ hr8 ?_))
        go_end0
        exact ⟨rfl, NW.out.1, NW.out.2⟩
end Go.Proofs.Ytpenmnngjfncgaa
