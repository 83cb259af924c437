/- Law 27: the reference's Dump. -/
import Derived.Test.YtkbgoloedlpflaaGImageBack1
import Derived.Test.YtkbgoloedlpflaaGImageBack2
import Derived.Test.YtkbgoloedlpflaaGImageBack3
import Derived.Test.YtkbgoloedlpflaaGImageBack4
namespace Go.Proofs.Ytkbgoloedlpflaa
open Go.RowKit Go.Proofs.FuMem Go.Proofs.FuNvm Go.Proofs.FuCode Go.Proofs.FuCrc Go.Proofs.FuImg
set_option maxRecDepth 100000
theorem zrow_get {i : Nat} (h : i < 64) : zrow[i]? = some 0 := by
  unfold zrow
  rw [List.getElem?_replicate, if_pos h]
theorem zeros_row {l : List UInt8} (h : l.length = 64) : zeros l 0 64 = (l == zrow) := by
  have e := zeros_in (b := l) (a := 0) (m := 64) (by omega) (by omega)
  rw [show ((0 : Nat) : Int) = 0 from rfl, show ((64 : Nat) : Int) = 64 from rfl] at e
  rw [e, Bool.eq_iff_iff, beq_iff_eq]
  unfold zall
  rw [List.all_eq_true]
  constructor
  · intro hall
    apply List.ext_getElem?
    intro i
    by_cases hi : i < 64
    · have := hall i (by simp [hi])
      rw [Nat.zero_add] at this
      have h2 : l[i]? = some 0 := by simpa using this
      rw [h2, zrow_get hi]
    · rw [List.getElem?_eq_none (by omega), List.getElem?_eq_none (by simp [zrow]; omega)]
  · rintro rfl i hi
    have hi' : i < 64 := by simpa using hi
    rw [Nat.zero_add, zrow_get hi']
    rfl
theorem r27_Dump_nil (w : World) : Calls Try.prog 20 #[.pointer none] w fun e w' => e = .returned (.tuple #[.slice none 0 0, .int .i64 1]) ∧ w = w' := by
  go_enter Try.func20, Try.ntmps20
  go_wp2
  go_ret2
  exact ⟨rfl, rfl⟩
theorem items64 {L : List Line} (h : AllOk L) (k : Nat) : (bodyB L.length (items L k)).length ≤ 6 + 66 * k := by
  induction k with
  | zero => simp [bodyB, items, headB_length]
  | succ k ih =>
    cases hx : L[k]? with
    | none =>
      have : items L (k + 1) = items L k := by unfold items; rw [List.range_succ, List.filterMap_append]; simp [hx]
      rw [this]
      omega
    | some x =>
      rw [items_succ hx]
      split
      · omega
      · rw [bodyB_snoc, List.length_append, List.length_append, lay_length, (h x (List.mem_of_getElem? hx)).2.1]
        omega
set_option maxHeartbeats 2000000 in
theorem r27_Dump (g cb cap : Nat) (D : Dev) (w : World) (hd : RefAt w g cb cap D) :
    Calls Try.prog 20 #[.pointer (some ⟨g, 0, none⟩)] w fun e w' => ∃ x, e = .returned (.tuple #[x, .int .i64 0]) ∧ MadeB w (imgOf D) x w' := by
  obtain ⟨i0, hi, hz0, hz1, hz2⟩ := info_parts Try.byteInfo
  have HI := Lib.hid hi
  have HZ0 := Lib.hid hz0
  have HZ1 := Lib.hid hz1
  have HZ2 := Lib.hid hz2
  have hfew := hd.few
  have HD := Lib.hid hd
  have hc : w.cell? ⟨g, 0, none⟩ = some (.slice (some ⟨cb, 0, none⟩) D.lines.length cap) := hd.cell 0
  have ho0 : (w.alloc (.cells #[.int .u8 70, .int .u8 83, .int .u8 73, .int .u8 49] 5)).ownsRow w.heap.size 5 1 (.slice (some ⟨w.heap.size, 0, none⟩) 4 4) 4 [.int .u8 70, .int .u8 83, .int .u8 73, .int .u8 49] := World.ownsRow_lit w #[.int .u8 70, .int .u8 83, .int .u8 73, .int .u8 49] 4 (Nat.le_refl _) (by decide) rfl
  have hn0 : Only [] w (w.alloc (.cells #[.int .u8 70, .int .u8 83, .int .u8 73, .int .u8 49] 5)) := (Only.refl _ _).alloc _
  have hc1 : (w.alloc (.cells #[.int .u8 70, .int .u8 83, .int .u8 73, .int .u8 49] 5)).cell? ⟨g, 0, none⟩ = some (.slice (some ⟨cb, 0, none⟩) D.lines.length cap) := (cell_only hn0 hd.lt1 (by simp)).trans hc
  have HLAY := Lib.hid (fun k v w hk hv => ref2_Lay k v w hk hv)
  have HGET := Lib.hid (fun k (hk : k < D.lines.length) => (⟨D.lines[k], List.getElem?_eq_getElem hk⟩ : ∃ x, D.lines[k]? = some x))
  have H64 := Lib.hid (fun k x (hx : D.lines[k]? = some x) => (hd.ok x (List.mem_of_getElem? hx)).2.1)
  have HSU := Lib.hid (fun k x (hx : D.lines[k]? = some x) => items_succ hx)
  have HLE := Lib.hid (fun k => items64 hd.ok k)
  have HIM := Lib.hid (show bodyB D.lines.length (items D.lines D.lines.length) ++ lay 4 (crc (bodyB D.lines.length (items D.lines D.lines.length))) = imgOf D from rfl)
  have e0 : items D.lines 0 = [] := rfl
  have HE0 := Lib.hid e0
  have HCRC := Lib.hid (fun l => crc_lt l)
  have HO0 := Lib.hid ho0
  have HN0 := Lib.hid hn0
  clear hi hz0 hz1 hz2 hd ho0 hn0 e0 hc
  generalize imgOf D = img at *
  have HDL : Hid (∀ k x, D.lines[k]? = some x → ∀ u, RefAt u g cb cap D → Bs u (some ⟨cb, k * 193 + 64, none⟩) x.kept.length x.kept) := Lib.hid (fun k x hx u hu => by
    obtain ⟨hk, rfl⟩ := List.getElem?_eq_some_iff.1 hx
    have h1 := (hu.ok.get hk).2.1
    have h2 := hu.kept hk
    rw [h1]
    exact h2)
  obtain ⟨m, hm⟩ : ∃ m, m = D.lines.length := ⟨_, rfl⟩
  rw [← hm] at hfew HGET HLE HIM hc1
  have HM := Lib.hid hm
  clear hm
  have hwm : IntKind.u64.wrap (m : Int) = (m : Int) := by rw [IntKind.wrap_u64]; omega
  obtain ⟨w1, hw1⟩ : ∃ w1, w1 = w.alloc (.cells #[.int .u8 70, .int .u8 83, .int .u8 73, .int .u8 49] 5) := ⟨_, rfl⟩
  rw [← hw1] at HO0 HN0 hc1
  rw [hw1] at hc1
  have HW1 := Lib.hid hw1
  clear hw1
  go_enter Try.func20, Try.ntmps20
  go_wp2_with fail
  rw [← HW1.out]
  refine (HLAY.out 2 m w1 (by omega) (by omega)).mono ?_
  rintro e w2 ⟨v2, rfl, A2, c2, rfl, b2, o2⟩
  rw [lay_length] at b2 ⊢
  obtain ⟨A3, c3, w3, hr3, b3, _, o3⟩ := append_own (P := Try.prog) w2 (HN0.out.trans0 o2) 22 22 5 i0 _ 1 Try.underlying22 HI.out HZ0.out HZ1.out HZ2.out rfl _ 4 _ (own_only HO0.out o2 (by simp)) A2 2 c2 ((lay 2 m).map B) (bs_own b2) one_B (by unfold maxLen; omega) (by omega)
  have e3 : ([.int .u8 70, .int .u8 83, .int .u8 73, .int .u8 49] : List Value) ++ (lay 2 m).map B = (bodyB m (items D.lines 0)).map B := rfl
  rw [e3] at b3
  have B3 := Lib.hid b3
  have O3 := Lib.hid o3
  clear b2 o2 b3 o3 e3
  go_wp2_with (at_builtin; refine wpList_append_run _ rfl (.tmp 9) (.tmp 16) 22 rfl _ _ rfl rfl _ _ hr3 ?_)
  clear hr3
  go_loopw [4, 5] (fun bv iv wr => ∃ k N, k ≤ m ∧ iv = .int .i64 (k : Nat) ∧ N = (bodyB m (items D.lines k)).length ∧ wr.ownsRow w.heap.size 5 1 bv N ((bodyB m (items D.lines k)).map B) ∧ Only [] w wr) (fun _ iv _ => m - (intOf iv).toNat)
  case atStart => exact ⟨0, 6, by omega, rfl, by rw [HE0.out]; rfl, B3.out, O3.out⟩
  case round =>
    obtain ⟨k, N, hk, rfl, hN, ho, on⟩ := hrel
    have hNle := HLE.out k
    rw [← hN] at hNle
    have DW := Lib.hid (HD.out.only0 on)
    have hcr : wr.cell? ⟨g, 0, none⟩ = some (.slice (some ⟨cb, 0, none⟩) m cap) := by rw [DW.out.cell 0, HM.out]; rfl
    obtain ⟨A, c, rfl, _, _⟩ := own_slice ho
    by_cases hlt : k < m
    · have y1 : decide ((k : Int) < (m : Int)) = true := by rw [decide_eq_true_eq]; omega
      have y2 : (k : Int) < (m : Int) := by omega
      have y3 : (0 : Int) ≤ (k : Int) := by omega
      obtain ⟨x, hx⟩ := HGET.out k hlt
      have h64 := H64.out k x hx
      have hsu := HSU.out k x hx
      have hbl := HDL.out k x hx wr DW.out
      have HBL := Lib.hid hbl
      have HSZ := Lib.hid (show (Try.prog.info? 69).map (·.size) = some x.kept.length by rw [h64]; exact arrSize3)
      have hzr := zeros_row h64
      generalize x.kept = r at *
      have HZR := Lib.hid hzr
      have HSUK := Lib.hid hsu
      have HO := Lib.hid ho
      have ON := Lib.hid on
      have HN := Lib.hid hN
      clear hx hbl hsu ho on hzr hN
      go_wp2_with (first
        | ((with_reducible show wpList _ _ _ (Oper.mk (some 34) _ _ _ _ _ :: _) _ _); refine wpList_load_arr rfl 69 (.tmp 33) rfl cb (k * 193 + 64) rfl r HBL.out 64 5 Try.underlying69 HSZ.out ?_)
        | ((with_reducible show wpList _ _ _ (Oper.mk (some 6) _ _ _ _ _ :: _) _ _); refine wpList_alloc_arr rfl 69 rfl _ rowZero3 ?_; intro w5 hb5 ho5 hs5)
        | ((with_reducible show wpList _ _ _ (Oper.mk none _ _ _ _ _ :: _) _ _); refine wpList_store_arr rfl 69 (.tmp 6) (.tmp 34) rfl wr.heap.size r rfl rfl _ _ hb5 (by rw [h64]; simp) HSZ.out ?_; intro w6 hb6 ho6 hs6))
      have ON6 := Lib.hid ((ON.out.trans0 ho5).trans ho6 (by intro b hb; simp at hb; right; have := ON.out.size; omega))
      have hb6' := Arr.bs hb6
      rw [h64] at hb6'
      have B6 := Lib.hid hb6'
      have AR6 := Lib.hid hb6
      have HOW6 := Lib.hid (own_only (own_only HO.out ho5 (by simp)) ho6 (fun q hq hm => by
        rw [List.mem_singleton] at hm
        have h1 := World.ownsRow.lt HO.out q hq
        omega))
      have HZ := Lib.hid (ref2_Zeros (some ⟨wr.heap.size, 0, none⟩) 64 64 r 0 64 w6 B6.out (by omega) (by omega) (by omega))
      rw [HZR.out] at HZ
      clear hb5 ho5 hs5 hb6 ho6 hb6'
      by_cases hzz : r = zrow
      · have hq : (r == zrow) = true := by rw [beq_iff_eq]; exact hzz
        rw [hq] at HZ
        rw [if_pos hzz] at HSUK
        clear hq hzz HO
        go_wp2_with fail
        refine HZ.out.mono ?_
        rintro e w' ⟨rfl, rfl⟩
        go_wp2
        go_roundw
        · exact ⟨k + 1, N, by omega, by simp, by rw [HSUK.out]; exact HN.out, by rw [HSUK.out]; exact HOW6.out, ON6.out⟩
        · simp [intOf]
          omega
      · have hq : (r == zrow) = false := by rw [beq_eq_false_iff_ne]; exact hzz
        rw [hq] at HZ
        rw [if_neg hzz] at HSUK
        have hwk : IntKind.u64.wrap (k : Int) = (k : Int) := by rw [IntKind.wrap_u64]; omega
        clear hq hzz HO
        go_wp2_with fail
        refine HZ.out.mono ?_
        rintro e w' ⟨rfl, rfl⟩
        go_wp2_with fail
        refine (HLAY.out 2 k w6 (by omega) (by omega)).mono ?_
        rintro e w7 ⟨v7, rfl, A7, c7, rfl, b7, o7⟩
        rw [lay_length] at b7 ⊢
        obtain ⟨A8, c8, w8, hr8, b8, U8, hu8, hg8⟩ := app_run (w0 := w) (c2 := c7) (n2 := 2) ON6.out.size HOW6.out o7 (bs_own b7) (by omega)
        have ar8 := AR6.out.only hu8 (fun hm => by obtain ⟨_, cs', t', e, ht⟩ := hg8 _ hm; rw [show w6.heap[wr.heap.size]? = _ from AR6.out] at e; cases e; exact absurd ht (by decide))
        have hb8 := Arr.bs ar8
        rw [h64] at hb8
        have on8 : Only [] w w8 := ON6.out.trans hu8 (fun b hm => .inr (hg8 b hm).1)
        obtain ⟨A9, c9, w9, hr9, b9, U9, hu9, hg9⟩ := app_run (w0 := w) (c2 := 64) (n2 := 64) on8.size b8 (Only.refl [] w8) hb8 (by omega)
        have on9 : Only [] w w9 := on8.trans hu9 (fun b hm => .inr (hg9 b hm).1)
        have e9 : bodyB m (items D.lines (k + 1)) = bodyB m (items D.lines k) ++ lay 2 k ++ r := by rw [HSUK.out]; exact bodyB_snoc m _ (k, r)
        rw [← e9] at b9
        have B9 := Lib.hid b9
        have O9 := Lib.hid on9
        have E9 := Lib.hid (show N + 2 + 64 = (bodyB m (items D.lines (k + 1))).length by rw [e9, List.length_append, List.length_append, lay_length, h64, ← HN.out])
        clear b7 o7 b8 hu8 hg8 ar8 hb8 on8 b9 hu9 hg9 on9 e9
        go_wp2_with (first
          | ((with_reducible show wpList _ _ _ (Oper.mk (some 41) _ _ _ _ _ :: _) _ _); refine wpList_append_run _ rfl (.tmp 37) (.tmp 40) 22 rfl _ _ rfl rfl _ _ hr8 ?_)
          | ((with_reducible show wpList _ _ _ (Oper.mk (some 44) _ _ _ _ _ :: _) _ _); refine wpList_append_run _ rfl (.tmp 42) (.tmp 43) 22 rfl _ _ rfl rfl _ _ hr9 ?_))
        go_roundw
        · exact ⟨k + 1, _, by omega, by simp, E9.out, B9.out, O9.out⟩
        · simp [intOf]
          omega
    · obtain rfl : k = m := by omega
      have y1 : decide ((k : Int) < (k : Int)) = false := by simp
      have hcl := HCRC.out (bodyB k (items D.lines k))
      have HIM2 := HIM
      generalize bodyB k (items D.lines k) = L at *
      have HSUM := Lib.hid (ref1_Sum A N c L wr (bs_own ho) (by unfold maxLen; omega))
      generalize hs : crc L = s at *
      have hws : IntKind.u64.wrap (s : Int) = (s : Int) := by rw [IntKind.wrap_u64]; omega
      have HOW := Lib.hid ho
      have ON := Lib.hid on
      have HN := Lib.hid hN
      clear ho on hs hN
      go_wp2_with fail
      refine HSUM.out.mono ?_
      rintro e w' ⟨rfl, rfl⟩
      go_wp2_with fail
      refine (HLAY.out 4 s _ (by omega) (by omega)).mono ?_
      rintro e w7 ⟨v7, rfl, A7, c7, rfl, b7, o7⟩
      rw [lay_length] at b7 ⊢
      obtain ⟨A8, c8, w8, hr8, b8, U8, hu8, hg8⟩ := app_run (w0 := w) (c2 := c7) (n2 := 4) ON.out.size HOW.out o7 (bs_own b7) (by omega)
      have on8 : Only [] w w8 := ON.out.trans hu8 (fun b hm => .inr (hg8 b hm).1)
      rw [HIM.out] at b8
      have el : img.length = N + 4 := by rw [← HIM.out, List.length_append, lay_length, ← HN.out]
      have B8 := Lib.hid b8
      have O8 := Lib.hid on8
      have EL := Lib.hid el
      clear b7 o7 b8 hu8 hg8 on8 el
      go_wp2_with ((with_reducible show wpList _ _ _ (Oper.mk (some 50) _ _ _ _ _ :: _) _ _); refine wpList_append_run _ rfl (.tmp 45) (.tmp 49) 22 rfl _ _ rfl rfl _ _ hr8 ?_)
      go_ret2
      exact ⟨.slice A8 (N + 4) c8, rfl, A8, c8, by rw [EL.out], by rw [EL.out]; exact B8.out, O8.out⟩
end Go.Proofs.Ytkbgoloedlpflaa
/- fuseeref27.Load: the contract. -/
namespace Go.Proofs.Ytkbgoloedlpflaa
open Go.RowKit Go.Proofs.FuMem Go.Proofs.FuNvm Go.Proofs.FuCode Go.Proofs.FuCrc Go.Proofs.FuImg
set_option maxRecDepth 100000
def LoadAnsR (w : World) (o : Option Dev) (e : Ending) (w' : World) : Prop :=
  Only [] w w' ∧ ((o = none ∧ e = refusedV) ∨ ∃ D g cb, o = some D ∧ e = .returned (.tuple #[.pointer (some ⟨g, 0, none⟩), .int .i64 0]) ∧ RefAt w' g cb D.lines.length D ∧ w.heap.size ≤ g ∧ w.heap.size ≤ cb)
theorem loadR_no {l : List UInt8} (h : ¬ okR l) : loadR l = none := if_neg h
theorem loadR_yes {l : List UInt8} (h : okR l) : loadR l = some (foldB l) := if_pos h
set_option maxHeartbeats 2000000 in
theorem r27_Load (A : Option Addr) (n c : Nat) (l : List UInt8) (w : World) (h : Bs w A n l) (hc : n ≤ c) (hn : n ≤ 17038) :
    Calls Try.prog 11 #[.slice A n c] w fun e w' => LoadAnsR w (loadR l) e w' := by
  have hl := h.len
  unfold LoadAnsR
  have q2 : decide ((17038 : Int) < (n : Int)) = false := by go_num
  by_cases h10 : n < 10
  · have hno := Lib.hid (loadR_no (l := l) fun x => by have := x.1; omega)
    have q1 : decide ((n : Int) < 10) = true := by go_num
    clear h hl
    go_enter Try.func11, Try.ntmps11
    go_wp2
    go_ret2
    exact ⟨Only.refl _ _, .inl ⟨hno.out, rfl⟩⟩
  · have q1 : decide ((n : Int) < 10) = false := by go_num
    obtain ⟨b, off, rfl, _⟩ := h.at_ (by omega)
    have hc6 : 6 ≤ c := by omega
    have hbw := h.lt (by omega) rfl
    have hcut := h.cut (a := 4) (m := 2) (by omega)
    have g1 := ref2_Number (some ⟨b, off + 4, none⟩) 2 (c - 4) _ w hcut (by omega)
    have hlt1 := num_lt ((l.drop 4).take 2)
    have hlen1 : ((l.drop 4).take 2).length = 2 := by rw [List.length_take, List.length_drop]; omega
    rw [hlen1] at hlt1
    rw [show num ((l.drop 4).take 2) = nOf l from rfl] at g1 hlt1
    have q5 : (nOf l : Int) ≤ 65535 := by omega
    by_cases hN : nOf l < 1 ∨ 258 < nOf l
    · have hno := Lib.hid (loadR_no (l := l) fun x => by have := x.2.1; have := x.2.2.1; omega)
      have S1 := Lib.hid (ref3_New_no (nOf l : Int) w (by omega))
      have G1 := Lib.hid g1
      clear h hl g1 hcut
      generalize nOf l = N at *
      clear hN hlt1 hlen1
      go_enter Try.func11, Try.ntmps11
      go_wp2_with fail
      refine (G1.out).mono ?_
      rintro e w' ⟨rfl, rfl⟩
      go_wp2_with fail
      refine S1.out.mono ?_
      rintro e w' ⟨rfl, rfl⟩
      go_wp2
      go_ret2
      exact ⟨Only.refl _ _, .inl ⟨hno.out, rfl⟩⟩
    · have S2 := Lib.hid (ref3_New (nOf l) w (by omega) (by omega))
      have GN := Lib.hid (fun (w1 : World) (o1 : Only [] w w1) (j a : Nat) (ha : a = 6 + 66 * j) (hj : j < kOf l) => by
        have hj' : a + 70 ≤ n := by unfold kOf at hj; omega
        have := ref2_Number (some ⟨b, off + a, none⟩) 2 (c - a) _ w1 ((h.only0 o1).cut (a := a) (m := 2) (by omega)) (by omega)
        rw [show num ((l.drop a).take 2) = (itemAt l j).1 by rw [ha]; rfl] at this
        exact this)
      have C3 := Lib.hid (show ∀ (w1 : World), Only [] w w1 → ∀ (j a : Nat), a = 6 + 66 * j → j < kOf l → Bs w1 (some ⟨b, off + (a + 2), none⟩) 64 (itemAt l j).2 from fun w1 o1 j a ha hj => by
        have hj' : a + 70 ≤ n := by unfold kOf at hj; omega
        have := (h.only0 o1).cut (a := a + 2) (m := 64) (by omega)
        rw [show (l.drop (a + 2)).take 64 = (itemAt l j).2 by rw [show a + 2 = 8 + 66 * j by omega]; rfl] at this
        exact this)
      have M3 := Lib.hid (fun (j : Nat) => show (itemAt l j).1 < 65536 by
        have h1 := num_lt ((l.drop (6 + 66 * j)).take 2)
        have h2 : ((l.drop (6 + 66 * j)).take 2).length ≤ 2 := List.length_take_le _ _
        have h3 : 256 ^ ((l.drop (6 + 66 * j)).take 2).length ≤ 256 ^ 2 := Nat.pow_le_pow_right (by omega) h2
        show num _ < 65536
        omega)
      have K1 := Lib.hid (show 6 + 66 * kOf l ≤ n - 4 ∧ n - 4 < 6 + 66 * (kOf l + 1) by unfold kOf; omega)
      have FB := Lib.hid (show foldB l = foldD (nOf l) (itemsTo l (kOf l)) from rfl)
      have FL := Lib.hid (show (foldB l).lines.length = nOf l from foldD_len _ _)
      have OK := Lib.hid (show imgOf (foldB l) = l → loadR l = some (foldB l) from fun x => loadR_yes ⟨by omega, by omega, by omega, x⟩)
      have NO := Lib.hid (show ¬ imgOf (foldB l) = l → loadR l = none from fun x => loadR_no fun y => x y.2.2.2)
      have HB := Lib.hid h
      have hn10 : 10 ≤ n := by omega
      have G1 := Lib.hid g1
      have hcn := hc
      clear h hl g1 hcut
      generalize nOf l = N at *
      generalize kOf l = k at *
      generalize foldB l = F at *
      generalize loadR l = o at *
      clear hN hlt1 hlen1
      go_enter Try.func11, Try.ntmps11
      go_wp2_with fail
      refine (G1.out).mono ?_
      rintro e w' ⟨rfl, rfl⟩
      go_wp2_with fail
      refine S2.out.mono ?_
      rintro e w1 ⟨g, cb, rfl, d1, o1, f1, f2⟩
      have O1 := Lib.hid o1
      have D1 := Lib.hid d1
      have hlt := h10
      clear d1 o1
      go_wp2
      go_loopw [6] (fun at_ wr => ∃ (j a : Nat), j ≤ k ∧ a = 6 + 66 * j ∧ at_ = .int .i64 a ∧ RefAt wr g cb N (foldD N (itemsTo l j)) ∧ Only [] w wr) (fun at_ _ => n - (intOf at_).toNat)
      case atStart => exact ⟨0, 6, Nat.zero_le _, rfl, rfl, D1.out, O1.out⟩
      case round =>
        obtain ⟨j, a, hj, ha, rfl, hd, on⟩ := hrel
        by_cases hlt : j < k
        · have hcmp : decide ((a : Int) + 66 ≤ (n : Int) - 4) = true := by have := K1.out; go_num
          have ha2 : a + 70 ≤ n := by have := K1.out; omega
          have ha1 : a + 66 ≤ c := by omega
          have gg := GN.out wr on j a ha hlt
          have cc := fun w2 o2 => C3.out w2 o2 j a ha hlt
          have hi := M3.out j
          have hft := foldD_snoc N (itemsTo l j) (itemAt l j)
          rw [← itemsTo_succ] at hft
          generalize itemAt l j = p at *
          obtain ⟨i, r⟩ := p
          simp only at gg cc hi hft
          generalize foldD N (itemsTo l j) = D at *
          have GG := Lib.hid gg
          have CC := Lib.hid cc
          have HFT := Lib.hid hft
          have HD := Lib.hid hd
          have ON := Lib.hid on
          have HJ := Lib.hid ha
          clear gg cc hft hd on ha
          go_wp2_with fail
          refine (GG.out).mono ?_
          rintro e w' ⟨rfl, rfl⟩
          go_wp2_with fail
          refine (ref3_Store_any g cb N D i 0 (some ⟨b, off + (a + 2), none⟩) 64 (c - (a + 2)) r wr HD.out (CC.out wr ON.out) (by unfold maxLen; omega) (fun _ b' off' s' e => by cases e; omega) (by omega)).mono ?_
          rintro e w4 ⟨rfl, d4, o4⟩
          have D4 := Lib.hid d4
          have O4 := Lib.hid (ON.out.trans o4 (by intro b hb; simp at hb; rcases hb with rfl | rfl <;> omega))
          clear d4 o4
          go_wp2_with fail
          refine (ref3_Back_any g cb N _ i w4 D4.out).mono ?_
          rintro e w5 ⟨rfl, d5, o5⟩
          have D5 := Lib.hid d5
          have O5 := Lib.hid (O4.out.trans o5 (by intro b hb; simp at hb; rcases hb with rfl | rfl <;> omega))
          clear d5 o5
          go_wp2
          go_roundw
          case rel => exact ⟨j + 1, a + 66, by omega, by have := HJ.out; omega, by go_num, by rw [HFT.out]; exact D5.out, O5.out⟩
          case measure => simp [intOf]; omega
        · obtain rfl : j = k := by omega
          have hcmp : decide ((a : Int) + 66 ≤ (n : Int) - 4) = false := by have := K1.out; go_num
          have ha2 : a ≤ 17038 := by have := K1.out; omega
          rw [← FB.out] at hd
          have HD := Lib.hid hd
          have ON := Lib.hid on
          clear hd on ha hlt
          go_wp2_with fail
          refine (r27_Dump g cb N F wr HD.out).mono ?_
          rintro e w2 ⟨x, rfl, A2, c2, rfl, b2, o2⟩
          have O2 := Lib.hid (ON.out.trans0 o2)
          have D2 := Lib.hid (HD.out.only0 o2)
          have hst1 := run_str (P := Try.prog) Try.underlying22 Try.underlying5 Try.underlying9 (bs_own b2) c2
          have hst2 := run_str (P := Try.prog) Try.underlying22 Try.underlying5 Try.underlying9 (HB.out.only0 O2.out) c
          clear b2 o2
          by_cases hll : imgOf F = l
          · have HO := Lib.hid (OK.out hll)
            rw [hll] at hst1 ⊢
            have e1 : ((⟨l.toArray⟩ : ByteArray).toList == (⟨l.toArray⟩ : ByteArray).toList) = true := by simp
            have e2 : ((⟨l.toArray⟩ : ByteArray).toList != (⟨l.toArray⟩ : ByteArray).toList) = false := by simp
            generalize (⟨l.toArray⟩ : ByteArray) = Y at hst1 hst2 e1 e2
            generalize l.length = NL at hst1 ⊢
            clear hll
            go_wp2
            go_ret2
            exact ⟨O2.out, .inr ⟨F, g, cb, HO.out, rfl, by rw [FL.out]; exact D2.out, f1, f2⟩⟩
          · have HO := Lib.hid (NO.out hll)
            have e1 : ((⟨(imgOf F).toArray⟩ : ByteArray).toList == (⟨l.toArray⟩ : ByteArray).toList) = false := by rw [toList_beq]; simpa using hll
            have e2 : ((⟨(imgOf F).toArray⟩ : ByteArray).toList != (⟨l.toArray⟩ : ByteArray).toList) = true := by rw [bne, e1]; rfl
            generalize (⟨(imgOf F).toArray⟩ : ByteArray) = X at hst1 e1 e2
            generalize (⟨l.toArray⟩ : ByteArray) = Y at hst2 e1 e2
            generalize (imgOf F).length = NL at hst1 ⊢
            clear hll
            go_wp2
            go_ret2
            exact ⟨O2.out, .inl ⟨HO.out, rfl⟩⟩
end Go.Proofs.Ytkbgoloedlpflaa
/- The walk of the statement NvmCuts. -/
set_option maxRecDepth 100000
namespace Go.Proofs.Ytkbgoloedlpflaa
open Go.RowKit Go.Proofs.FuMem Go.Proofs.FuNvm Go.Proofs.FuCode
theorem Try.bytesInfo : (Try.prog.info? 22).map (fun i => (i.zero, i.size, i.bytes)) = some (some (.slice none 0 0), 1, 24) := by kernel_rfl
/-- slices of bytes of the call's own, in blocks from m on -/
def Rows (w : World) (m : Nat) (vs : List Value) (ls : List (List UInt8)) : Prop :=
  vs.length = ls.length ∧ ∀ (j : Nat) (v : Value) (l : List UInt8), vs[j]? = some v → ls[j]? = some l → w.ownsRow m 5 1 v l.length (l.map B)
theorem Rows.only {w w' : World} {m : Nat} {vs : List Value} {ls : List (List UInt8)} {S : List Nat} (h : Rows w m vs ls) (o : Only S w w') (hs : ∀ b ∈ S, b < m) : Rows w' m vs ls :=
  ⟨h.1, fun j v l h1 h2 => own_only (h.2 j v l h1 h2) o (fun k hk hm => by have := World.ownsRow.lt (h.2 j v l h1 h2) k hk; have := hs k hm; omega)⟩
theorem own_grown {w w' : World} {base : Nat} {e : TypeId} {size : Nat} {v : Value} {n : Nat} {xs : List Value} {row : Option Nat} (h : w.ownsRow base e size v n xs) (ho : w.grownBy w' row) (hs : ∀ k, v.ownBlock = some k → row ≠ some k) : w'.ownsRow base e size v n xs := by
  refine ⟨h.1, ?_⟩
  rcases h.2 with h0 | ⟨g, cap, cur, rfl, hbg, hg, hnc, hcm, hcs, htake⟩
  · exact .inl h0
  · exact .inr ⟨g, cap, cur, rfl, hbg, (ho.block g (Array.getElem?_eq_some_iff.1 hg).1 (fun e => hs g rfl e.symm)).trans hg, hnc, hcm, hcs, htake⟩
theorem own_types {w : World} {b1 b2 : Nat} {e1 e2 : TypeId} {s1 s2 : Nat} {v u : Value} {n m : Nat} {xs ys : List Value} (h : w.ownsRow b1 e1 s1 v n xs) (k : w.ownsRow b2 e2 s2 u m ys) (hne : e1 ≠ e2) : ∀ g, v.ownBlock = some g → u.ownBlock ≠ some g := by
  intro g hv hu
  rcases h.2 with ⟨rfl, _⟩ | ⟨g1, _, cur1, rfl, _, hg1, _⟩
  · simp [Value.ownBlock] at hv
  · rcases k.2 with ⟨rfl, _⟩ | ⟨g2, _, cur2, rfl, _, hg2, _⟩
    · simp [Value.ownBlock] at hu
    · have a1 : g1 = g := by simpa [Value.ownBlock] using hv
      have a2 : g2 = g := by simpa [Value.ownBlock] using hu
      subst a1
      subst a2
      rw [hg1] at hg2
      injection hg2 with hg2
      injection hg2 with _ ht
      exact hne ht
theorem Rows.grown {w w' : World} {m : Nat} {vs : List Value} {ls : List (List UInt8)} (h : Rows w m vs ls) {b2 : Nat} {e2 : TypeId} {u : Value} {n : Nat} {ys : List Value} (k : w.ownsRow b2 e2 1 u n ys) (hne : 5 ≠ e2) (ho : w.grownBy w' u.ownBlock) : Rows w' m vs ls :=
  ⟨h.1, fun j v l h1 h2 => own_grown (h.2 j v l h1 h2) ho (own_types (h.2 j v l h1 h2) k hne)⟩
theorem Rows.snoc {w : World} {m : Nat} {vs : List Value} {ls : List (List UInt8)} (h : Rows w m vs ls) {v : Value} {l : List UInt8} (hb : w.ownsRow m 5 1 v l.length (l.map B)) : Rows w m (vs ++ [v]) (ls ++ [l]) := by
  have hl := h.1
  refine ⟨by simp [hl], fun j u k h1 h2 => ?_⟩
  by_cases hj : j < vs.length
  · rw [List.getElem?_append_left hj] at h1
    rw [List.getElem?_append_left (by omega)] at h2
    exact h.2 j u k h1 h2
  · have hj2 : j < (vs ++ [v]).length := (List.getElem?_eq_some_iff.1 h1).1
    obtain rfl : j = vs.length := by simp at hj2; omega
    rw [List.getElem?_append_right (Nat.le_refl _)] at h1
    rw [hl, List.getElem?_append_right (Nat.le_refl _)] at h2
    simp at h1 h2
    subst h1
    subst h2
    exact hb
theorem append_ownG {P : Program} (w : World) {w0 : World} {T : List Nat} (on : Only T w0 w) (t ty e : TypeId) (i : TypeInfo) (z : Value) (bytes : Nat) (ht : P.underlying t = some (.slice e)) (hi : P.info? e = some i) (hz : i.zero = some z)
    (hsize : i.size = 1) (hby : i.bytes = bytes) (hzs : z.cells.size = 1)
    (v : Value) (n : Nat) (xs : List Value) (hown : w.ownsRow w0.heap.size e 1 v n xs)
    (A : Option Addr) (m c : Nat) (news : List Value) (hr : Sl w A m news) (h1 : ∀ u ∈ news, u.oneCell' = true)
    (h63 : n + m ≤ maxLen) (hbytes : (n + m) * bytes ≤ 140737488355328) :
    ∃ A' c' w', (Builtin.append_ #[t, t] ty #[v, .slice A m c]).run P w = .ok (.slice A' (n + m) c') w' ∧ w'.ownsRow w0.heap.size e 1 (.slice A' (n + m) c') (n + m) (xs ++ news) ∧
      Only T w0 w' ∧ w.grownBy w' v.ownBlock := by
  obtain ⟨v', w', hrun, h2, h3, _⟩ := run_append_sl (P := P) w w0.heap.size t ty e i z bytes ht hi hz hsize hby hzs v n xs hown A m c news hr h1 h63 hbytes on.size
  obtain ⟨A', c', rfl, _, _⟩ := own_slice h2
  have hb : ∀ k, k < w0.heap.size → w'.heap[k]? = w.heap[k]? := fun k hk => h3.block k (Nat.lt_of_lt_of_le hk on.size) (fun e => by have := hown.lt k e.symm; omega)
  exact ⟨A', c', w', hrun, h2, ⟨h3.os.trans on.os, h3.tape.trans on.tape, h3.output.trans on.output, Nat.le_trans on.size h3.size, fun k hk hn => (hb k hk).trans (on.block k hk hn)⟩, h3⟩
theorem madeB_own2 {w w' : World} {l : List UInt8} {v : Value} (h : MadeB w l v w') : ∃ A c, v = .slice A l.length c ∧ w'.ownsRow w.heap.size 5 1 (.slice A l.length c) l.length (l.map B) ∧ Only [] w w' := by
  obtain ⟨A, c, rfl, h, o⟩ := h
  exact ⟨A, c, rfl, h, o⟩
def wantOf (keep : List Int) (i : Nat) (x : Line) : List UInt8 := if (i : Int) ∈ keep then x.now else x.kept
def wants (keep : List Int) (L : List Line) : List (List UInt8) := L.mapIdx (wantOf keep)
theorem wants_take {keep : List Int} {L : List Line} {k : Nat} {x : Line} (h : L[k]? = some x) : (wants keep L).take (k + 1) = (wants keep L).take k ++ [wantOf keep k x] := by
  unfold wants
  have hk := (List.getElem?_eq_some_iff.1 h).1
  rw [List.take_succ_eq_append_getElem (by simpa using hk), List.getElem_mapIdx, (List.getElem?_eq_some_iff.1 h).2]
theorem wants_get {keep : List Int} {L : List Line} {k : Nat} {x : Line} (h : L[k]? = some x) : (wants keep L)[k]? = some (wantOf keep k x) := by
  unfold wants
  rw [List.getElem?_mapIdx, h]
  rfl
theorem cutL_now (keep : List Int) (k : Nat) (x : Line) : (cutL keep k x).now = wantOf keep k x := by
  unfold cutL wantOf
  split
  · rename_i h
    rw [if_pos h.2]
  · rename_i h
    by_cases hk : (k : Int) ∈ keep
    · rw [if_pos hk]
      by_cases he : x.now = x.kept
      · exact he.symm
      · exact absurd ⟨by simpa using he, hk⟩ h
    · rw [if_neg hk]
theorem cutL_kept (keep : List Int) (k : Nat) (x : Line) : (cutL keep k x).kept = (cutL keep k x).now := by
  unfold cutL
  split <;> rfl
theorem cutL_sent (keep : List Int) (k : Nat) (x : Line) : (cutL keep k x).sent = false := by
  unfold cutL
  split <;> rfl
theorem those_none {p : Line → Bool} {L : List Line} (h : ∀ x ∈ L, p x = false) (m : Nat) : those p L m = [] := by
  unfold those
  rw [List.map_eq_nil_iff, List.filter_eq_nil_iff]
  intro j _
  cases hq : L[j]? with
  | none => simp
  | some x => simp [h x (List.mem_of_getElem? hq)]
theorem cut_loose (D : Dev) (keep : List Int) (m : Nat) : those (fun x => x.now != x.kept) (cutD D keep).lines m = [] :=
  those_none (fun x hx => by
    unfold cutD at hx
    obtain ⟨i, hi, rfl⟩ := List.mem_mapIdx.1 hx
    rw [cutL_kept]
    simp) m
theorem cut_sent (D : Dev) (keep : List Int) (m : Nat) : those (fun x => x.sent) (cutD D keep).lines m = [] :=
  those_none (fun x hx => by
    unfold cutD at hx
    obtain ⟨i, hi, rfl⟩ := List.mem_mapIdx.1 hx
    exact cutL_sent _ _ _) m
/-- what is kept so far -/
def pick (keep : List Int) (i : Nat) (a b : Value) : Value := if (i : Int) ∈ keep then a else b
theorem pick_hit {keep : List Int} {j : Nat} {i : Nat} {a b : Value} (hj : j < keep.length) (h : keep[j] = (i : Int)) : pick (keep.take (j + 1)) i a b = a := by
  unfold pick
  rw [if_pos]
  rw [List.take_succ_eq_append_getElem hj, h]
  simp
theorem pick_miss {keep : List Int} {j : Nat} {i : Nat} {a b : Value} (hj : j < keep.length) (h : keep[j] ≠ (i : Int)) : pick (keep.take (j + 1)) i a b = pick (keep.take j) i a b := by
  unfold pick
  have : ((i : Int) ∈ keep.take (j + 1)) ↔ ((i : Int) ∈ keep.take j) := by
    rw [List.take_succ_eq_append_getElem hj, List.mem_append, List.mem_singleton]
    exact ⟨fun h' => h'.elim id (fun e => absurd e.symm h), .inl⟩
  simp only [this]
theorem one_slice (A : Option Addr) (n c : Nat) : ∀ u ∈ [Value.slice A n c], u.oneCell' = true := by
  intro u hu
  rw [List.mem_singleton] at hu
  subst hu
  rfl
end Go.Proofs.Ytkbgoloedlpflaa
/- Law 3: do both devices tell the same? -/
set_option maxRecDepth 100000
namespace Go.Proofs.Ytkbgoloedlpflaa
open Go.RowKit Go.Proofs.FuMem Go.Proofs.FuNvm Go.Proofs.FuCode
/-- what was answered is written over: its block alone, and what is new -/
theorem law0_OverBytes2 (S : List Nat) (base : Nat) (A : Option Addr) (n c : Nat) (l : List UInt8) (w : World) (h : w.ownsRow base 5 1 (.slice A n c) n (l.map B)) (hbase : base ≤ w.heap.size) (hS : ∀ k, (Value.slice A n c).ownBlock = some k → k ∈ S) (hn : n ≤ 1000000) :
    Calls Try.prog 22 #[.slice A n c] w fun e w' => e = .returned (.tuple #[]) ∧ Only S w w' := by
  obtain ⟨i0, hi, hz0, hz1, hz2⟩ := info_parts Try.byteInfo
  have HI := Lib.hid hi
  have HZ0 := Lib.hid hz0
  have HZ1 := Lib.hid hz1
  have HZ2 := Lib.hid hz2
  have HO := Lib.hid h
  have HS := Lib.hid hS
  clear hi hz0 hz1 hz2 h hS
  go_enter Try.func22, Try.ntmps22
  go_wp2
  go_loopw [2] (fun i wr => ∃ (j : Nat) (l' : List UInt8), j ≤ n ∧ i = .int .i64 j ∧ wr.ownsRow base 5 1 (.slice A n c) n (l'.map B) ∧ Only S w wr) (fun i _ => n - (intOf i).toNat)
  case atStart => exact ⟨0, l, Nat.zero_le _, rfl, HO.out, Only.refl _ _⟩
  case round =>
    obtain ⟨j, l', hj, rfl, ho, on⟩ := hrel
    by_cases hlt : j < n
    · obtain ⟨g, rfl, hbg, hgg, ho⟩ := OwnB.of ho (by omega)
      have hcell := ho.cell j hlt
      have hfr := ho.frozen j
      have hst := ho.set j (xor8 (l'.getD j 0) 255 (by omega))
      have on2 := on.setCell (p := ⟨g, j, none⟩) (.inl (HS.out g rfl)) (.int .u8 (bits .xor .u8 ((l'.getD j 0).toNat : Int) ((255 : Nat) : Int)))
      rw [show ((255 : Nat) : Int) = 255 from rfl] at hst on2
      have H1 := Lib.hid hst
      have H2 := Lib.hid on2
      clear ho on hst on2
      generalize l'.set j (l'.getD j 0 ^^^ UInt8.ofNat 255) = l2 at *
      generalize (l'.getD j 0).toNat = x at *
      go_wp2
      go_roundw
      case rel => exact ⟨j + 1, l2, by omega, by go_num, H1.out, H2.out⟩
      case measure => simp [intOf]; omega
    · obtain rfl : j = n := by omega
      obtain ⟨v', w', hr, ho2, hg2, _⟩ := run_append_sl (P := Try.prog) (wr.alloc (.cells #[.int .u8 90] 5)) base 22 22 5 i0 _ 1 Try.underlying22 HI.out HZ0.out HZ1.out HZ2.out rfl _ j _ (ho.alloc _) (some ⟨wr.heap.size, 0, none⟩) 1 1 [.int .u8 90] (one_cell _ _ _) (one_ints _ _) (by unfold maxLen; omega) (by omega) (by have := on.size; simp; omega)
      have on2 : Only S w w' := (on.alloc _).trans (Only.of_grown hg2 (S := S) (fun k hk => .inl (HS.out k hk))) (fun b hb => .inl hb)
      have H2 := Lib.hid on2
      clear ho on ho2 hg2 on2
      go_wp2_with (at_builtin; refine wpList_append_run _ rfl (.tmp 17) (.tmp 18) 22 rfl _ _ rfl rfl _ _ hr ?_)
      go_end0
      exact ⟨rfl, H2.out⟩
/-- the list that holds a slice's own block -/
theorem own_list {w : World} {base : Nat} {e : TypeId} {size n : Nat} {v : Value} {xs : List Value} (h : w.ownsRow base e size v n xs) : ∃ S : List Nat, (∀ k, v.ownBlock = some k → k ∈ S) ∧ ∀ k ∈ S, base ≤ k ∧ k < w.heap.size := by
  refine ⟨v.ownBlock.toList, fun k hk => by rw [hk]; simp, fun k hk => ?_⟩
  have hk' : v.ownBlock = some k := by simpa using hk
  have h1 := World.ownsRow.lt h k hk'
  rcases h.2 with ⟨rfl, _⟩ | ⟨g, cap, cur, rfl, hbg, hg, _⟩
  · simp [Value.ownBlock] at hk'
  · have : g = k := by simpa [Value.ownBlock] using hk'
    subst this
    exact ⟨hbg, (Array.getElem?_eq_some_iff.1 hg).1⟩
end Go.Proofs.Ytkbgoloedlpflaa
/- Law 27: do both devices tell the same? -/
set_option maxRecDepth 100000
namespace Go.Proofs.Ytkbgoloedlpflaa
open Go.RowKit Go.Proofs.FuMem Go.Proofs.FuNvm Go.Proofs.FuCode
set_option maxHeartbeats 16000000 in
theorem law27_alike (g cb cap rg rb rcap : Nat) (D : Dev) (w : World) (hd : DevAt w g cb cap D) (hr : RefAt w rg rb rcap D) (hlo : those (fun x => x.now != x.kept) D.lines D.lines.length = []) (hwy : those (fun x => x.sent) D.lines D.lines.length = []) :
    Calls Try.prog 14 #[.pointer (some ⟨g, 0, none⟩), .pointer (some ⟨rg, 0, none⟩)] w fun e w' => e = .returned (.bool true) ∧ Only [] w w' := by
  have hf := hd.few
  have HLO := Lib.hid (fun w (hd : DevAt w g cb cap D) => by have := nvm_Loose g cb cap D w hd; rw [hlo] at this; exact this)
  have HWY := Lib.hid (fun w (hd : DevAt w g cb cap D) => by have := nvm_Way g cb cap D w hd; rw [hwy] at this; exact this)
  have HD := Lib.hid hd
  have HR := Lib.hid hr
  obtain ⟨m, hm⟩ : ∃ m, m = D.lines.length := ⟨_, rfl⟩
  rw [← hm] at hf
  have HM := Lib.hid hm
  have x0 : w.cell? ⟨rg, 0, none⟩ = some (.slice (some ⟨rb, 0, none⟩) m rcap) := by rw [hr.cell 0, hm]; rfl
  have x1 : w.cell? ⟨rg, 1, none⟩ = some (.int .i64 D.stores) := hr.cell 1
  have x2 : w.cell? ⟨rg, 2, none⟩ = some (.int .i64 D.flushes) := hr.cell 2
  have x3 : w.cell? ⟨rg, 3, none⟩ = some (.int .i64 D.fences) := hr.cell 3
  have x4 : w.cell? ⟨rg, 4, none⟩ = some (.int .i64 D.backs) := hr.cell 4
  have x5 : w.cell? ⟨rg, 5, none⟩ = some (.int .i64 D.cuts) := hr.cell 5
  have DW := Lib.hid (hd.only0 (Only.refl [] w).drew)
  have RW := Lib.hid (hr.only0 (Only.refl [] w).drew)
  have OW := Lib.hid ((Only.refl [] w).drew)
  clear hd hr hm hlo hwy
  go_enter Try.func14, Try.ntmps14
  go_wp2_with fail
  go_region_held3 (fun w' => w'.cell? ⟨rg, 0, none⟩ = some (.slice (some ⟨rb, 0, none⟩) m rcap) ∧ w'.cell? ⟨rg, 1, none⟩ = some (.int .i64 D.stores) ∧ w'.cell? ⟨rg, 2, none⟩ = some (.int .i64 D.flushes) ∧ w'.cell? ⟨rg, 3, none⟩ = some (.int .i64 D.fences) ∧ w'.cell? ⟨rg, 4, none⟩ = some (.int .i64 D.backs) ∧ w'.cell? ⟨rg, 5, none⟩ = some (.int .i64 D.cuts)) (go_keep)
    (first
      | (go_at_call 42; refine (HWY.out _ D7.out).mono ?_; rintro e w8 ⟨v8, rfl, A8, c8, rfl, b8, o8⟩; have R8 := Lib.hid (R7.out.only0 o8); have D8 := Lib.hid (D7.out.only0 o8); have O8 := Lib.hid (O7.out.trans0 o8); have q0w8 : w8.cell? ⟨rg, 0, none⟩ = some (.slice (some ⟨rb, 0, none⟩) m rcap) := (by rw [R8.out.cell 0, HM.out]; rfl); have q1w8 : w8.cell? ⟨rg, 1, none⟩ = some (.int .i64 D.stores) := R8.out.cell 1; have q2w8 : w8.cell? ⟨rg, 2, none⟩ = some (.int .i64 D.flushes) := R8.out.cell 2; have q3w8 : w8.cell? ⟨rg, 3, none⟩ = some (.int .i64 D.fences) := R8.out.cell 3; have q4w8 : w8.cell? ⟨rg, 4, none⟩ = some (.int .i64 D.backs) := R8.out.cell 4; have q5w8 : w8.cell? ⟨rg, 5, none⟩ = some (.int .i64 D.cuts) := R8.out.cell 5; clear b8 o8)
      | (go_at_call 32; refine (HLO.out _ D6.out).mono ?_; rintro e w7 ⟨v7, rfl, A7, c7, rfl, b7, o7⟩; have R7 := Lib.hid (R6.out.only0 o7); have D7 := Lib.hid (D6.out.only0 o7); have O7 := Lib.hid (O6.out.trans0 o7); have q0w7 : w7.cell? ⟨rg, 0, none⟩ = some (.slice (some ⟨rb, 0, none⟩) m rcap) := (by rw [R7.out.cell 0, HM.out]; rfl); have q1w7 : w7.cell? ⟨rg, 1, none⟩ = some (.int .i64 D.stores) := R7.out.cell 1; have q2w7 : w7.cell? ⟨rg, 2, none⟩ = some (.int .i64 D.flushes) := R7.out.cell 2; have q3w7 : w7.cell? ⟨rg, 3, none⟩ = some (.int .i64 D.fences) := R7.out.cell 3; have q4w7 : w7.cell? ⟨rg, 4, none⟩ = some (.int .i64 D.backs) := R7.out.cell 4; have q5w7 : w7.cell? ⟨rg, 5, none⟩ = some (.int .i64 D.cuts) := R7.out.cell 5; clear b7 o7)
      | (go_at_call 19; refine (nvm_Counts g cb cap D _ DW.out).mono ?_; rintro e w6 ⟨rfl, o6⟩; have R6 := Lib.hid (RW.out.only0 o6); have D6 := Lib.hid (DW.out.only0 o6); have O6 := Lib.hid (OW.out.trans0 o6); have q0w6 : w6.cell? ⟨rg, 0, none⟩ = some (.slice (some ⟨rb, 0, none⟩) m rcap) := (by rw [R6.out.cell 0, HM.out]; rfl); have q1w6 : w6.cell? ⟨rg, 1, none⟩ = some (.int .i64 D.stores) := R6.out.cell 1; have q2w6 : w6.cell? ⟨rg, 2, none⟩ = some (.int .i64 D.flushes) := R6.out.cell 2; have q3w6 : w6.cell? ⟨rg, 3, none⟩ = some (.int .i64 D.fences) := R6.out.cell 3; have q4w6 : w6.cell? ⟨rg, 4, none⟩ = some (.int .i64 D.backs) := R6.out.cell 4; have q5w6 : w6.cell? ⟨rg, 5, none⟩ = some (.int .i64 D.cuts) := R6.out.cell 5; clear o6)
      | (go_at_call 29; refine (nvm_Lines g cb cap D _ DW.out).mono ?_; rintro e wb ⟨rfl, rfl⟩; rw [← HM.out]))
  clear x0 x1 x2 x3 x4 x5 q0w6 q1w6 q2w6 q3w6 q4w6 q5w6 q0w7 q1w7 q2w7 q3w7 q4w7 q5w7 q0w8 q1w8 q2w8 q3w8 q4w8 q5w8
  go_wp2
  go_loopw [5, 6, 7, 8, 9, 10, 11, 12, 13] (fun i _ _ _ _ _ _ _ _ wr => ∃ j : Nat, j ≤ m ∧ i = .int .i64 j ∧ Only [] w wr) (fun i _ _ _ _ _ _ _ _ _ => m - (intOf i).toNat)
  case atStart => exact ⟨0, Nat.zero_le _, rfl, O8.out⟩
  case round =>
    obtain ⟨k, hj, rfl, on⟩ := hrel
    have DR := Lib.hid (HD.out.only0 on)
    have RR := Lib.hid (HR.out.only0 on)
    have ON := Lib.hid on
    clear on
    have hc0 : wr.cell? ⟨rg, 0, none⟩ = some (.slice (some ⟨rb, 0, none⟩) m rcap) := by
      rw [RR.out.cell 0, HM.out]
      rfl
    by_cases hlt : k < m
    · have q1 : decide ((k : Int) < (m : Int)) = true := by go_num
      have hx := lineOf_get (D := D) (i := k) (by rw [← HM.out]; omega)
      generalize lineOf D (k : Int) = x at *
      have HX := Lib.hid hx
      have hok := DR.out.ok x (List.mem_of_getElem? hx)
      have HN1 := Lib.hid hok.1
      have HN2 := Lib.hid hok.2.1
      clear hx hok
      go_wp2_with fail
      refine (nvm_Load g cb cap D k x HX.out _ DR.out).mono ?_
      rintro e w4 ⟨v4, rfl, m4⟩
      obtain ⟨A4, c4, rfl, b4, o4⟩ := madeB_own2 m4
      rw [HN1.out] at b4 ⊢
      have D4 := Lib.hid (DR.out.only0 o4)
      have R4 := Lib.hid (RR.out.only0 o4)
      have O4 := Lib.hid o4
      have B4 := Lib.hid b4
      clear m4 b4 o4
      go_wp2_with fail
      refine (ref3_Load rg rb rcap D k x HX.out _ R4.out).mono ?_
      rintro e w5 ⟨v5, rfl, g5, rfl, b5, f5, o5⟩
      rw [HN1.out] at b5 ⊢
      have D5 := Lib.hid (D4.out.only0 o5)
      have R5 := Lib.hid (R4.out.only0 o5)
      have O5 := Lib.hid (O4.out.trans0 o5)
      have B5 := Lib.hid (own_only B4.out o5 (by simp))
      have C5 := Lib.hid b5
      clear b5 o5 f5
      go_wp2_with fail
      refine (nvm_Durable g cb cap D k x HX.out _ D5.out).mono ?_
      rintro e w6' ⟨v6, rfl, m6⟩
      obtain ⟨A6, c6, rfl, b6, o6⟩ := madeB_own2 m6
      rw [HN2.out] at b6 ⊢
      have R6' := Lib.hid (R5.out.only0 o6)
      have O6' := Lib.hid (O5.out.trans0 o6)
      have B6 := Lib.hid (own_only B5.out o6 (by simp))
      have C6 := Lib.hid (Bs.only0 C5.out o6)
      have E6 := Lib.hid b6
      clear m6 b6 o6
      go_wp2_with fail
      refine (ref3_Durable rg rb rcap D k x HX.out _ R6'.out).mono ?_
      rintro e w7' ⟨v7', rfl, g7, rfl, b7, f7, o7⟩
      rw [HN2.out] at b7 ⊢
      have O7' := Lib.hid (O6'.out.trans0 o7)
      have B7 := Lib.hid (own_only B6.out o7 (by simp))
      have C7 := Lib.hid (Bs.only0 C6.out o7)
      have E7 := Lib.hid (own_only E6.out o7 (by simp))
      have F7 := Lib.hid b7
      have OE := Lib.hid (ON.out.trans0 O7'.out)
      clear b7 o7 f7
      go_wp2_with fail
      refine (law0_SameBytes _ _ _ _ _ _ _ _ _ (bs_own B7.out) C7.out).mono ?_
      rintro e w' ⟨rfl, rfl⟩
      rw [beq_self_eq_true]
      go_wp2_with fail
      refine (law0_SameBytes _ _ _ _ _ _ _ _ _ (bs_own E7.out) F7.out).mono ?_
      rintro e w' ⟨rfl, rfl⟩
      rw [beq_self_eq_true]
      go_wp2
      go_roundw
      case rel => exact ⟨k + 1, by omega, by go_num, OE.out⟩
      case measure => simp [intOf]; omega
    · obtain rfl : k = m := by omega
      have q1 : decide ((k : Int) < (k : Int)) = false := by simp
      go_wp2
      go_ret
      exact ⟨rfl, ON.out⟩
end Go.Proofs.Ytkbgoloedlpflaa
/- Law 27: what every program answers that is one; the walk of ImageLoads. -/
set_option maxRecDepth 100000
namespace Go.Proofs.Ytkbgoloedlpflaa
open Go.RowKit Go.Proofs.FuMem Go.Proofs.FuNvm Go.Proofs.FuCode Go.Proofs.FuCrc Go.Proofs.FuImg
theorem those_nil (p : Line → Bool) (L : List Line) (i : Nat) (h : ∀ x ∈ L, p x = false) : those p L i = [] := by
  unfold those
  rw [List.filter_eq_nil_iff.2, List.map_nil]
  intro j _
  cases hx : L[j]? with
  | none => simp
  | some x => simp [h x (List.mem_of_getElem? hx)]
theorem items_64 {L : List Line} (hok : AllOk L) (n : Nat) : ∀ p ∈ items L n, p.2.length = 64 := by
  intro p hp
  unfold items at hp
  rw [List.mem_filterMap] at hp
  obtain ⟨i, _, hi⟩ := hp
  cases hx : L[i]? with
  | none => rw [hx] at hi; cases hi
  | some x =>
    rw [hx] at hi
    simp only at hi
    split at hi
    · cases hi
    · cases hi
      exact (hok x (List.mem_of_getElem? hx)).2.1
/-- the items of a device -/
abbrev itemsD (D : Dev) : List (Nat × List UInt8) := items D.lines D.lines.length
theorem img_parse {D : Dev} (hok : AllOk D.lines) (h2 : D.lines.length ≤ 258) :
    (imgOf D).length = 10 + 66 * (itemsD D).length ∧ (imgOf D).take 4 = [70, 83, 73, 49] ∧ nOf (imgOf D) = D.lines.length ∧ kOf (imgOf D) = (itemsD D).length ∧ crc ((imgOf D).take ((imgOf D).length - 4)) = num ((imgOf D).drop ((imgOf D).length - 4)) ∧ itemsTo (imgOf D) (itemsD D).length = itemsD D := by
  have hg := items_good (L := D.lines) D.lines.length D.lines.length (Nat.le_refl _)
  exact parse_img (n := D.lines.length) (qs := itemsD D) (by omega) (items_64 hok _) (fun p hp => by have := hg.2 p hp; omega)
theorem load_img {D : Dev} (hok : AllOk D.lines) (h1 : 1 ≤ D.lines.length) (h2 : D.lines.length ≤ 258) : loadP (imgOf D) = some (foldD D.lines.length (itemsD D)) := by
  obtain ⟨p1, p2, p3, p4, p5, p6⟩ := img_parse hok h2
  have hg := items_good (L := D.lines) D.lines.length D.lines.length (Nat.le_refl _)
  rw [loadP_yes ⟨⟨by omega, p2, by omega, by omega, by omega, p5⟩, by rw [p4, p6, p3]; exact hg.1⟩]
  unfold foldB
  rw [p3, p4, p6]
theorem foldB_still {l : List UInt8} {D : Dev} (h : loadP l = some D) : (∀ x ∈ D.lines, (x.now != x.kept) = false) ∧ (∀ x ∈ D.lines, x.sent = false) := by
  unfold loadP at h
  split at h
  · rename_i hh
    cases h
    have h64 := itemsTo_64 (b := l) (k := kOf l) (by have := hh.1.1; unfold kOf; omega)
    have key : ∀ x ∈ (foldB l).lines, x.now = x.kept ∧ x.sent = false := by
      intro x hx
      obtain ⟨i, hi, rfl⟩ := List.getElem_of_mem hx
      obtain ⟨y, hy, _, e1, e2, _⟩ := foldD_get (n := nOf l) h64 (i := i) (by rw [show (foldB l).lines.length = nOf l from foldD_len _ _] at hi; exact hi)
      rw [show (foldD (nOf l) (itemsTo l (kOf l))) = foldB l from rfl, List.getElem?_eq_getElem hi] at hy
      cases hy
      exact ⟨e1, e2⟩
    exact ⟨fun x hx => by rw [(key x hx).1, bne_self_eq_false], fun x hx => (key x hx).2⟩
  · cases h
set_option maxHeartbeats 1000000 in
theorem law27_awake (w : World) : Calls Try.prog 8 #[] w fun e w' => e = .returned (.bool true) ∧ Only [] w w' := by
  have hok : AllOk (newDev 2).lines := allOk_new 2
  have hit : itemsD (newDev 2) = [] := by decide
  obtain ⟨p1, p2, p3, p4, p5, p6⟩ := img_parse hok (by decide)
  have hld := load_img hok (by decide) (by decide)
  rw [hit] at p1 hld
  have hln : (foldD (newDev 2).lines.length []).lines.length = 2 := foldD_len _ _
  have h4 : (imgOf (newDev 2))[4]? = some 2 := by decide
  have h4' : (imgOf (newDev 2)).getD 4 0 = 2 := by rw [List.getD_eq_getElem?_getD, h4]; rfl
  generalize foldD (newDev 2).lines.length [] = F at *
  have HLD := Lib.hid hld
  have HLN := Lib.hid hln
  have HP1 := Lib.hid p1
  have HP4 := Lib.hid h4'
  have LD := Lib.hid (fun A n c w h hc hn => img_Load A n c (imgOf (newDev 2)) w h hc hn)
  have DU := Lib.hid (fun g cb w hd => img_Dump g cb 2 (newDev 2) w hd)
  have NW := Lib.hid (nvm_New 2 w (by omega) (by omega))
  clear p1 p2 p3 p4 p5 p6 hok hit h4 h4' hld hln
  generalize imgOf (newDev 2) = l at *
  generalize newDev 2 = D at *
  go_enter Try.func8, Try.ntmps8
  go_wp2_with fail
  refine (NW.out).mono ?_
  rintro e w1 ⟨g, cb, rfl, d1, o1, f1, f2⟩
  have D1 := Lib.hid d1
  have O1 := Lib.hid o1
  clear d1 o1
  go_wp2_with fail
  refine (DU.out g cb _ D1.out).mono ?_
  rintro e w2 ⟨x, rfl, m2⟩
  obtain ⟨g2, c2, rfl, b2, f3, o2⟩ := madeB_get m2 (by rw [HP1.out]; omega)
  rw [HP1.out] at b2 ⊢
  have HB := Lib.hid b2
  have O2 := Lib.hid (O1.out.trans0 o2)
  have hcap := b2.cap.1
  clear b2 o2 m2
  go_wp2_with fail
  refine (LD.out (some ⟨g2, 0, none⟩) 10 c2 w2 HB.out.bs hcap (by omega)).mono ?_
  rintro e w3 ⟨o3, h3⟩
  rw [HLD.out] at h3
  rcases h3 with ⟨h, _⟩ | ⟨D', g3, cb3, h, rfl, d3, f4, f5⟩
  · cases h
  cases h
  have HB3 := HB.out.only o3 (by simp)
  have hc4 := HB3.cell 4 (by omega)
  rw [HP4.out] at hc4
  rw [HLN.out] at d3
  have hc4' : w3.cell? ⟨g2, 4, none⟩ = some (.int .u8 2) := hc4
  have O3 := Lib.hid (O2.out.trans0 o3)
  have D3 := Lib.hid d3
  clear o3 d3 HB3 hc4
  go_wp2_with fail
  refine (nvm_Lines g3 cb3 2 F w3 D3.out).mono ?_
  rintro e w' ⟨rfl, rfl⟩
  rw [HLN.out]
  go_wp2
  go_ret
  exact ⟨rfl, O3.out⟩
set_option maxHeartbeats 1000000 in
theorem walk_ImageLoads (A : Option Addr) (n c : Nat) (l : List UInt8) (w : World) (h : Bs w A n l) (hn : n ≤ maxLen) (hc : n ≤ c) :
    Calls Try.prog 3 #[.slice A n c] w fun e w' => e = .returned (.bool true) ∧ Only [] w w' := by
  unfold maxLen at hn
  have HB := Lib.hid h
  clear h
  by_cases hbig : 2000 < n
  · have q0 : decide ((2000 : Int) < (n : Int)) = true := by go_num
    go_enter Try.func3, Try.ntmps3
    go_wp2_with fail
    refine (law27_awake _).mono ?_
    rintro e w1 ⟨rfl, o1⟩
    go_wp2
    go_ret
    exact ⟨rfl, o1⟩
  · have q0 : decide ((2000 : Int) < (n : Int)) = false := by go_num
    have hn2 : n ≤ 2000 := by omega
    have hn5 : n ≤ n + 5 := by omega
    have LE := Lib.hid (law0_LendBytes A n c l w HB.out (by omega))
    go_enter Try.func3, Try.ntmps3
    go_wp2_with fail
    refine (LE.out).mono ?_
    rintro e w1 ⟨rfl, t1, o1⟩
    have hl := HB.out.len
    have hs : Bs w1 (some ⟨w.heap.size, 0, none⟩) n l := Sl.of_blk t1 0 (by simp [← hl]) (by simp [← hl])
    have HS := Lib.hid hs
    have T1 := Lib.hid t1
    have O1 := Lib.hid o1
    clear t1 o1 hs hl
    go_wp2_with fail
    refine (img_Load (some ⟨w.heap.size, 0, none⟩) n (n + 5) l w1 HS.out hn5 (by omega)).mono ?_
    rintro e w2 ⟨o2, h2⟩
    have O2 := Lib.hid (O1.out.trans0 o2)
    have T2 := Lib.hid (Lent.only T1.out o2 (by simp))
    have B2 := Lib.hid (HB.out.only0 O2.out)
    clear o2
    have hst := fun D (hd : loadP l = some D) => foldB_still hd
    have hrl := r27_Load A n c l w2 B2.out hc (by omega)
    rw [← load_eq] at hrl
    have RL := Lib.hid hrl
    have KB := Lib.hid (fun w3 (o3 : Only [] w2 w3) => law0_KeptBytes A n c l w.heap.size w3 (Lent.only T2.out o3 (by simp)) (B2.out.only0 o3) (by omega))
    have ST := Lib.hid hst
    clear hst hrl
    generalize loadP l = o at *
    rcases h2 with ⟨rfl, rfl⟩ | ⟨D, g2, cb2, rfl, rfl, d2, f1, f2⟩
    · go_wp2_with fail
      refine RL.out.mono ?_
      rintro e w3 ⟨o3, h3⟩
      rcases h3 with ⟨_, rfl⟩ | ⟨D', g3, cb3, h, _⟩
      case inr => cases h
      have O3 := Lib.hid (O2.out.trans0 o3)
      have K3 := Lib.hid (KB.out w3 o3)
      clear o3
      go_wp2_with fail
      refine (law0_Num _ _).mono ?_
      rintro e w' ⟨rfl, rfl⟩
      go_wp2_with fail
      refine (K3.out).mono ?_
      rintro e w' ⟨rfl, rfl⟩
      go_wp2_with fail
      refine (law27_awake _).mono ?_
      rintro e w4 ⟨rfl, o4⟩
      have O4 := Lib.hid (O3.out.trans0 o4)
      clear o4
      go_wp2
      go_ret
      exact ⟨rfl, O4.out⟩
    · have D2 := Lib.hid d2
      clear d2
      go_wp2_with fail
      refine RL.out.mono ?_
      rintro e w3 ⟨o3, h3⟩
      rcases h3 with ⟨h, _⟩ | ⟨D', g3, cb3, h, rfl, d3, f3, f4⟩
      · cases h
      cases h
      have O3 := Lib.hid (O2.out.trans0 o3)
      have K3 := Lib.hid (KB.out w3 o3)
      have AL := Lib.hid (law27_alike g2 cb2 _ g3 cb3 _ D w3 (D2.out.only0 o3) d3 (those_nil _ _ _ (ST.out D rfl).1) (those_nil _ _ _ (ST.out D rfl).2))
      clear o3 d3
      go_wp2_with fail
      refine (law0_Num _ _).mono ?_
      rintro e w' ⟨rfl, rfl⟩
      go_wp2_with fail
      refine (K3.out).mono ?_
      rintro e w' ⟨rfl, rfl⟩
      go_wp2_with fail
      refine (AL.out).mono ?_
      rintro e w4 ⟨rfl, o4⟩
      have O4 := Lib.hid (O3.out.trans0 o4)
      clear o4
      go_wp2_with fail
      refine (law27_awake _).mono ?_
      rintro e w5 ⟨rfl, o5⟩
      have O5 := Lib.hid (O4.out.trans0 o5)
      clear o5
      go_wp2
      go_ret
      exact ⟨rfl, O5.out⟩
end Go.Proofs.Ytkbgoloedlpflaa
/- Law 27: are acts more than is gone through; both devices behind some acts. -/
set_option maxRecDepth 100000
namespace Go.Proofs.Ytkbgoloedlpflaa
open Go.RowKit Go.Proofs.FuMem Go.Proofs.FuNvm Go.Proofs.FuCode
set_option maxHeartbeats 1000000 in
theorem law27_large (A : Option Addr) (n c : Nat) (xs : List (Deed × Holds)) (w : World) (h : Deeds w A n xs) :
    Calls Try.prog 15 #[.slice A n c] w fun e w' => e = .returned (.bool (isLarge xs)) ∧ w = w' := by
  obtain ⟨hl, hm, hok, hr⟩ := h
  unfold maxLen at hm
  by_cases h80 : 80 < n
  · have hlg : isLarge xs = true := by unfold isLarge; rw [decide_eq_true_eq]; exact .inl (by omega)
    rw [hlg]
    have hh : decide ((80 : Int) < (n : Int)) = true := by go_num
    go_enter Try.func15, Try.ntmps15
    go_wp2
    go_ret
    exact ⟨rfl, rfl⟩
  · have hh : decide ((80 : Int) < (n : Int)) = false := by go_num
    have HOK := Lib.hid hok
    have HR := Lib.hid hr
    have HL := Lib.hid hl
    clear hok hr hl
    go_enter Try.func15, Try.ntmps15
    go_wp2
    go_loopw [3] (fun i wr => ∃ (k : Nat), k ≤ n ∧ i = .int .i64 k ∧ (∀ x ∈ xs.take k, ¬ Big x) ∧ w = wr) (fun i _ => n - (intOf i).toNat)
    case atStart => exact ⟨0, Nat.zero_le _, rfl, by simp, rfl⟩
    case round =>
      obtain ⟨k, hk, rfl, hno, rfl⟩ := hrel
      by_cases hlt : k < n
      · rcases HR.out with h0 | ⟨b, off, rfl, hrng⟩
        · omega
        have hxk : xs[k]? = some (xs[k]'(by rw [HL.out]; exact hlt)) := List.getElem?_eq_getElem _
        have hmem : xs[k]'(by rw [HL.out]; exact hlt) ∈ xs := List.getElem_mem _
        have htk : xs.take (k + 1) = xs.take k ++ [xs[k]'(by rw [HL.out]; exact hlt)] := by rw [List.take_add_one, hxk]; rfl
        have HTK := Lib.hid htk
        have HMEM := Lib.hid hmem
        have hrg := hrng k _ hxk
        have hok := HOK.out _ hmem
        clear hrng htk
        generalize xs[k]'(by rw [HL.out]; exact hlt) = x at *
        obtain ⟨x, s⟩ := x
        obtain ⟨bA, bn, bc, kA, kn, kc⟩ := s
        have e3 : w.cell? ⟨b, off + k * 5 + 3, none⟩ = some (.slice bA bn bc) := hrg 3 _ rfl
        have e4 : w.cell? ⟨b, off + k * 5 + 4, none⟩ = some (.slice kA kn kc) := hrg 4 _ rfl
        have HNO := Lib.hid hno
        have m1 : bn ≤ 9223372036854775807 := by have := hok.m1; unfold maxLen at this; simp only at this; omega
        have m2 : kn ≤ 9223372036854775807 := by have := hok.m2; unfold maxLen at this; simp only at this; omega
        clear hok hrg hxk hno hmem
        by_cases hb1 : 100 < bn
        · have hlg : isLarge xs = true := by unfold isLarge; rw [decide_eq_true_eq]; exact .inr ⟨_, HMEM.out, .inl hb1⟩
          have hq : decide ((100 : Int) < (bn : Int)) = true := by go_num
          have HLG := Lib.hid hlg
          clear hlg
          go_wp2
          go_ret
          exact ⟨by rw [HLG.out]; rfl, rfl⟩
        · have hq : decide ((100 : Int) < (bn : Int)) = false := by go_num
          by_cases hb2 : 100 < kn
          · have hlg : isLarge xs = true := by unfold isLarge; rw [decide_eq_true_eq]; exact .inr ⟨_, HMEM.out, .inr hb2⟩
            have hq2 : decide ((100 : Int) < (kn : Int)) = true := by go_num
            have HLG := Lib.hid hlg
            clear hlg
            go_wp2
            go_ret
            exact ⟨by rw [HLG.out]; rfl, rfl⟩
          · have hq2 : decide ((100 : Int) < (kn : Int)) = false := by go_num
            go_wp2
            go_roundw
            case rel =>
              refine ⟨k + 1, by omega, by go_num, ?_, by trivial⟩
              rw [HTK.out]
              intro y hy
              rcases List.mem_append.1 hy with hy | hy
              · exact HNO.out y hy
              · rw [List.mem_singleton] at hy
                subst hy
                unfold Big
                simp only
                omega
            case measure => simp [intOf]; omega
      · obtain rfl : k = n := by omega
        have hlg : isLarge xs = false := by
          unfold isLarge
          rw [decide_eq_false_iff_not]
          rintro (h | ⟨x, hx, hb⟩)
          · have := HL.out; omega
          · exact hno x (by rw [List.take_of_length_le (by rw [HL.out]; exact Nat.le_refl _)]; exact hx) hb
        have HLG := Lib.hid hlg
        clear hlg hno
        go_wp2
        go_ret
        exact ⟨by rw [HLG.out]; rfl, rfl⟩
/-- what both answers -/
def BothAns (w : World) (n : Int) (xs : List (Deed × Holds)) (e : Ending) (w' : World) : Prop :=
  Only [] w w' ∧ (((n < 1 ∨ 258 < n) ∧ e = .returned (.tuple #[.pointer none, .pointer none])) ∨
    ∃ (N g cb rg rb : Nat), n = N ∧ 1 ≤ N ∧ N ≤ 258 ∧ e = .returned (.tuple #[.pointer (some ⟨g, 0, none⟩), .pointer (some ⟨rg, 0, none⟩)]) ∧ DevAt w' g cb N (playAll (newDev N) xs) ∧ RefAt w' rg rb N (playAll (newDev N) xs) ∧
      w.heap.size ≤ g ∧ w.heap.size ≤ cb ∧ w.heap.size ≤ rg ∧ w.heap.size ≤ rb ∧ g ≠ rg ∧ g ≠ rb ∧ cb ≠ rg ∧ cb ≠ rb)
theorem law27_both_no (n : Int) (A : Option Addr) (m c : Nat) (w : World) (hm : m ≤ maxLen) (h : n < 1 ∨ 258 < n) (_hb : -9223372036854775808 ≤ n ∧ n ≤ 9223372036854775807) :
    Calls Try.prog 16 #[.int .i64 n, .slice A m c] w fun e w' => e = .returned (.tuple #[.pointer none, .pointer none]) ∧ Only [] w w' := by
  have N1 := Lib.hid (nvm_New_no n w h)
  have N2 := Lib.hid (ref3_New_no n w h)
  unfold maxLen at hm
  go_enter Try.func16, Try.ntmps16
  go_wp2_with fail
  refine N1.out.mono ?_
  rintro e w' ⟨rfl, hw⟩
  obtain rfl : w = w' := hw.symm
  go_wp2_with fail
  refine N2.out.mono ?_
  rintro e w' ⟨rfl, hw⟩
  obtain rfl : w = w' := hw.symm
  go_wp2
  go_loopw [10] (fun i wr => i = .int .i64 0 ∧ Only [] w wr) (fun _ _ => 0)
  case atStart => exact ⟨rfl, Only.refl _ _⟩
  case round =>
    obtain ⟨rfl, on⟩ := hrel
    by_cases h0 : 0 < m
    · have q0 : decide ((0 : Int) < (m : Int)) = true := by go_num
      go_wp2
      go_ret2
      exact ⟨rfl, on⟩
    · have q0 : decide ((0 : Int) < (m : Int)) = false := by go_num
      go_wp2
      go_ret2
      exact ⟨rfl, on⟩
end Go.Proofs.Ytkbgoloedlpflaa
/- Law 27: both devices behind some acts. -/
set_option maxRecDepth 100000
namespace Go.Proofs.Ytkbgoloedlpflaa
open Go.RowKit Go.Proofs.FuMem Go.Proofs.FuNvm Go.Proofs.FuCode
theorem wpList_store_all27 {P : Program} {w : World} {ops : Array Oper} {rest : List Oper} {o : Oper} {a : Act} {Q : Exit → Act → World → Prop} (hgd : o.guard = none) (T : TypeId) (x y : Operand) (ho : o.op = .store T x y) (g : Nat) (vs : Array Value) (hx : a.eval x = .pointer (some ⟨g, 0, none⟩)) (hy : a.eval y = .agg vs)
    (t : TypeId) (cs : Array Value) (hb : Blk w g t cs) (hfit : vs.size = cs.size) (hi : (P.info? T).map (·.size) = some vs.size) (h1 : vs.all (·.oneCell') = true)
    (h : ∀ w', Blk w' g t vs → Only [g] w w' → wpList P ops Q rest (a.put o.dst undef) w') : wpList P ops Q (o :: rest) a w :=
  wpList_store_blk hgd T x y ho g 0 vs hx hy t cs hb (by omega) hi h1 fun w' hb' ho' _ => h w' (by
    have e : FuMem.splice cs 0 vs.toList = vs := by
      unfold FuMem.splice
      apply Array.ext'
      simp
      omega
    rwa [e] at hb') ho'
theorem actZero : (Try.prog.info? 82).map (·.zero) = some (some (.agg #[.int .i64 0, .int .i64 0, .int .i64 0, .slice none 0 0, .slice none 0 0])) := by kernel_rfl
theorem actInfo : (Try.prog.info? 82).map (·.size) = some 5 := by kernel_rfl
theorem actV_one (a b c : Int) (A A' : Option Addr) (n m p q : Nat) : (#[.int .i64 a, .int .i64 b, .int .i64 c, .slice A n p, .slice A' m q] : Array Value).all (·.oneCell') = true := by
  simp [Value.oneCell']
set_option maxHeartbeats 4000000 in
theorem law27_both_yes (N : Nat) (A : Option Addr) (m c : Nat) (xs : List (Deed × Holds)) (w : World) (h : Deeds w A m xs) (hsm : ∀ x ∈ xs, x.2.bn ≤ 100 ∧ x.2.kn ≤ 100) (hN1 : 1 ≤ N) (hN2 : N ≤ 258) :
    Calls Try.prog 16 #[.int .i64 N, .slice A m c] w fun e w' => BothAns w N xs e w' := by
  obtain ⟨hl, hm, hok, hr⟩ := h
  unfold maxLen at hm
  have HOK := Lib.hid hok
  have HR := Lib.hid hr
  have HL := Lib.hid hl
  have HSM := Lib.hid hsm
  clear hok hr hl hsm
  go_enter Try.func16, Try.ntmps16
  go_wp2_with fail
  refine (nvm_New N w hN1 hN2).mono ?_
  rintro e w1 ⟨g, cb, rfl, d1, o1, f1, f2⟩
  have hlt1 := d1.lt1
  have hlt2 := d1.lt2
  have D1 := Lib.hid d1
  have O1 := Lib.hid o1
  clear d1 o1
  go_wp2_with fail
  refine (ref3_New N w1 hN1 hN2).mono ?_
  rintro e w2 ⟨rg, rb, rfl, d2, o2, f3, f4⟩
  have D2 := Lib.hid (D1.out.only0 o2)
  have R2 := Lib.hid d2
  have O2 := Lib.hid (O1.out.trans0 o2)
  have hs1 := O1.out.size
  clear d2 o2
  go_wp2
  go_loopw [10, 11] (fun i _ wr => ∃ (k : Nat), k ≤ m ∧ i = .int .i64 k ∧ DevAt wr g cb N (playAll (newDev N) (xs.take k)) ∧ RefAt wr rg rb N (playAll (newDev N) (xs.take k)) ∧ Only [] w wr) (fun i _ _ => m - (intOf i).toNat)
  case atStart => exact ⟨0, Nat.zero_le _, rfl, D2.out, R2.out, O2.out⟩
  case round =>
    obtain ⟨k, hk, rfl, hd, hr, on⟩ := hrel
    by_cases hlt : k < m
    · have q1 : decide ((k : Int) < (m : Int)) = true := by go_num
      rcases HR.out with h0 | ⟨b, off, rfl, hrng⟩
      · omega
      have hxk : xs[k]? = some (xs[k]'(by rw [HL.out]; exact hlt)) := List.getElem?_eq_getElem _
      have hmem : xs[k]'(by rw [HL.out]; exact hlt) ∈ xs := List.getElem_mem _
      have HTK := Lib.hid (playAll_take (D := newDev N) hxk)
      have hrg := hrng k _ hxk
      have hok := HOK.out _ hmem
      have hsk := HSM.out _ hmem
      clear hrng hmem hxk
      generalize xs[k]'(by rw [HL.out]; exact hlt) = x at *
      obtain ⟨x, s⟩ := x
      have hrw : wr.rangeAt b (off + k * 5) (deedV x s) := fun j v hv => by
        have hc := hrg j v hv
        rw [cell_only on (lt_of_cell hc) (by simp)]
        exact hc
      have HBS := Lib.hid (hok.bs.only0 on)
      have HIS := Lib.hid (hok.is.only0 on)
      have hsb : 0 < s.bn → ∀ b off t, s.bA = some ⟨b, off, t⟩ → b < w.heap.size := fun hp => sl_blocks hok.bs hp
      have hsk' : 0 < s.kn → ∀ b off t, s.kA = some ⟨b, off, t⟩ → b < w.heap.size := fun hp => sl_blocks hok.is hp
      have HSB := Lib.hid hsb
      have HSK := Lib.hid hsk'
      have HRW := Lib.hid hrw
      have hpos := hok.k3
      have hz := on.size
      have hx1 := hd.lt1
      have hx2 := hd.lt2
      have hx3 := hr.lt1
      have hx4 := hr.lt2
      clear hsb hsk' hrw hok
      obtain ⟨kind, line, pos, bl, keep⟩ := x
      obtain ⟨bA, bn, bc, kA, kn, kc⟩ := s
      unfold deedV at HRW
      simp only at HBS HIS HSB HSK HRW hsk hpos
      generalize playAll (newDev N) (xs.take k) = D at *
      have HD := Lib.hid hd
      have HRR := Lib.hid hr
      have ON := Lib.hid on
      clear hrg hd on hr
      by_cases h0 : kind = 0
      · subst h0
        rw [show playD D ⟨0, line, pos, bl, keep⟩ = store1 D line pos bl by unfold playD; simp] at HTK
        go_wp2_with (first
          | ((with_reducible show wpList _ _ _ (Oper.mk (some 35) _ _ _ _ _ :: _) _ _); refine wpList_load_mid rfl 82 (.tmp 34) rfl b (off + k * 5) rfl [.int .i64 0, .int .i64 line, .int .i64 pos, .slice bA bn bc, .slice kA kn kc] _ HRW.out Try.underlying82 rfl (by kernel_rfl) ?_)
          | ((with_reducible show wpList _ _ _ (Oper.mk (some 11) _ _ _ _ _ :: _) _ _); refine wpList_alloc_blk rfl 82 rfl _ actZero ?_; intro w3 hb3 ho3 hs3; have B3 := Lib.hid hb3; have O3 := Lib.hid ho3; clear hb3 ho3)
          | ((with_reducible show wpList _ _ _ (Oper.mk none _ _ _ _ _ :: _) _ _); refine wpList_store_all27 rfl 82 (.tmp 11) (.tmp 35) rfl wr.heap.size #[.int .i64 0, .int .i64 line, .int .i64 pos, .slice bA bn bc, .slice kA kn kc] rfl rfl _ _ B3.out rfl actInfo (actV_one _ _ _ _ _ _ _ _ _) ?_; intro w4 hb4 ho4; have B4 := Lib.hid hb4; have O4 := Lib.hid (show Only [] wr w4 from O3.out.trans ho4 (by intro b hb; rw [List.mem_singleton] at hb; subst hb; exact .inr (Nat.le_refl _))); have z0 : w4.cell? ⟨wr.heap.size, 0, none⟩ = some (.int .i64 0) := B4.out.cell 0; have z1 : w4.cell? ⟨wr.heap.size, 1, none⟩ = some (.int .i64 line) := B4.out.cell 1; have z2 : w4.cell? ⟨wr.heap.size, 2, none⟩ = some (.int .i64 pos) := B4.out.cell 2; have z3 : w4.cell? ⟨wr.heap.size, 3, none⟩ = some (.slice bA bn bc) := B4.out.cell 3; have z4 : w4.cell? ⟨wr.heap.size, 4, none⟩ = some (.slice kA kn kc) := B4.out.cell 4; clear hb4 ho4))
        have D4 := Lib.hid (HD.out.only0 O4.out)
        have R4 := Lib.hid (HRR.out.only0 O4.out)
        refine (nvm_Store_any g cb N D line pos bA bn bc bl _ D4.out (HBS.out.only0 O4.out) (by unfold maxLen; omega)).mono ?_
        rintro e w5 ⟨rfl, d5, o5⟩
        have D5 := Lib.hid d5
        have R5 := Lib.hid (R4.out.only o5 (by simp; omega) (by simp; omega))
        have B5 := Lib.hid (Blk.only B4.out o5 (by simp; omega))
        have O5 := Lib.hid ((ON.out.trans0 O4.out).trans o5 (by intro b hb; simp at hb; rcases hb with rfl | rfl <;> omega))
        have M5 := Lib.hid o5
        clear d5 o5
        have y1 : w5.cell? ⟨wr.heap.size, 1, none⟩ = some (.int .i64 line) := B5.out.cell 1
        have y2 : w5.cell? ⟨wr.heap.size, 2, none⟩ = some (.int .i64 pos) := B5.out.cell 2
        have y3 : w5.cell? ⟨wr.heap.size, 3, none⟩ = some (.slice bA bn bc) := B5.out.cell 3
        have y4 : w5.cell? ⟨wr.heap.size, 4, none⟩ = some (.slice kA kn kc) := B5.out.cell 4
        go_wp2_with fail
        refine (ref3_Store_any rg rb N D line pos bA bn bc bl _ R5.out (is_only_pos' (HBS.out.only0 O4.out) M5.out (fun hp b' off' t e hb => by have := HSB.out hp b' off' t e; simp at hb; omega)) (by unfold maxLen; omega) (fun hp b' off' t e => by have := HSB.out hp b' off' t e; omega) hpos).mono ?_
        rintro e w6 ⟨rfl, d6, o6⟩
        have R6 := Lib.hid d6
        have D6 := Lib.hid (D5.out.only o6 (by simp; omega) (by simp; omega))
        have O6 := Lib.hid (O5.out.trans o6 (by intro b hb; simp at hb; rcases hb with rfl | rfl <;> omega))
        clear d6 o6
        go_wp2
        go_roundw
        case rel => exact ⟨k + 1, by omega, by go_num, by rw [HTK.out]; exact D6.out, by rw [HTK.out]; exact R6.out, O6.out⟩
        case measure => simp [intOf]; omega
      by_cases h1 : kind = 1
      · subst h1
        rw [show playD D ⟨1, line, pos, bl, keep⟩ = flush1 D line by unfold playD; simp] at HTK
        go_wp2_with (first
          | ((with_reducible show wpList _ _ _ (Oper.mk (some 35) _ _ _ _ _ :: _) _ _); refine wpList_load_mid rfl 82 (.tmp 34) rfl b (off + k * 5) rfl [.int .i64 1, .int .i64 line, .int .i64 pos, .slice bA bn bc, .slice kA kn kc] _ HRW.out Try.underlying82 rfl (by kernel_rfl) ?_)
          | ((with_reducible show wpList _ _ _ (Oper.mk (some 11) _ _ _ _ _ :: _) _ _); refine wpList_alloc_blk rfl 82 rfl _ actZero ?_; intro w3 hb3 ho3 hs3; have B3 := Lib.hid hb3; have O3 := Lib.hid ho3; clear hb3 ho3)
          | ((with_reducible show wpList _ _ _ (Oper.mk none _ _ _ _ _ :: _) _ _); refine wpList_store_all27 rfl 82 (.tmp 11) (.tmp 35) rfl wr.heap.size #[.int .i64 1, .int .i64 line, .int .i64 pos, .slice bA bn bc, .slice kA kn kc] rfl rfl _ _ B3.out rfl actInfo (actV_one _ _ _ _ _ _ _ _ _) ?_; intro w4 hb4 ho4; have B4 := Lib.hid hb4; have O4 := Lib.hid (show Only [] wr w4 from O3.out.trans ho4 (by intro b hb; rw [List.mem_singleton] at hb; subst hb; exact .inr (Nat.le_refl _))); have z0 : w4.cell? ⟨wr.heap.size, 0, none⟩ = some (.int .i64 1) := B4.out.cell 0; have z1 : w4.cell? ⟨wr.heap.size, 1, none⟩ = some (.int .i64 line) := B4.out.cell 1; have z2 : w4.cell? ⟨wr.heap.size, 2, none⟩ = some (.int .i64 pos) := B4.out.cell 2; have z3 : w4.cell? ⟨wr.heap.size, 3, none⟩ = some (.slice bA bn bc) := B4.out.cell 3; have z4 : w4.cell? ⟨wr.heap.size, 4, none⟩ = some (.slice kA kn kc) := B4.out.cell 4; clear hb4 ho4))
        have D4 := Lib.hid (HD.out.only0 O4.out)
        have R4 := Lib.hid (HRR.out.only0 O4.out)
        refine (nvm_Flush_any g cb N D line _ D4.out).mono ?_
        rintro e w5 ⟨rfl, d5, o5⟩
        have D5 := Lib.hid d5
        have R5 := Lib.hid (R4.out.only o5 (by simp; omega) (by simp; omega))
        have B5 := Lib.hid (Blk.only B4.out o5 (by simp; omega))
        have O5 := Lib.hid ((ON.out.trans0 O4.out).trans o5 (by intro b hb; simp at hb; rcases hb with rfl | rfl <;> omega))
        have M5 := Lib.hid o5
        clear d5 o5
        have y1 : w5.cell? ⟨wr.heap.size, 1, none⟩ = some (.int .i64 line) := B5.out.cell 1
        have y2 : w5.cell? ⟨wr.heap.size, 2, none⟩ = some (.int .i64 pos) := B5.out.cell 2
        have y3 : w5.cell? ⟨wr.heap.size, 3, none⟩ = some (.slice bA bn bc) := B5.out.cell 3
        have y4 : w5.cell? ⟨wr.heap.size, 4, none⟩ = some (.slice kA kn kc) := B5.out.cell 4
        go_wp2_with fail
        refine (ref3_Flush_any rg rb N D line _ R5.out).mono ?_
        rintro e w6 ⟨rfl, d6, o6⟩
        have R6 := Lib.hid d6
        have D6 := Lib.hid (D5.out.only o6 (by simp; omega) (by simp; omega))
        have O6 := Lib.hid (O5.out.trans o6 (by intro b hb; simp at hb; rcases hb with rfl | rfl <;> omega))
        clear d6 o6
        go_wp2
        go_roundw
        case rel => exact ⟨k + 1, by omega, by go_num, by rw [HTK.out]; exact D6.out, by rw [HTK.out]; exact R6.out, O6.out⟩
        case measure => simp [intOf]; omega
      by_cases h2 : kind = 2
      · subst h2
        rw [show playD D ⟨2, line, pos, bl, keep⟩ = fenceD D by unfold playD; simp] at HTK
        go_wp2_with (first
          | ((with_reducible show wpList _ _ _ (Oper.mk (some 35) _ _ _ _ _ :: _) _ _); refine wpList_load_mid rfl 82 (.tmp 34) rfl b (off + k * 5) rfl [.int .i64 2, .int .i64 line, .int .i64 pos, .slice bA bn bc, .slice kA kn kc] _ HRW.out Try.underlying82 rfl (by kernel_rfl) ?_)
          | ((with_reducible show wpList _ _ _ (Oper.mk (some 11) _ _ _ _ _ :: _) _ _); refine wpList_alloc_blk rfl 82 rfl _ actZero ?_; intro w3 hb3 ho3 hs3; have B3 := Lib.hid hb3; have O3 := Lib.hid ho3; clear hb3 ho3)
          | ((with_reducible show wpList _ _ _ (Oper.mk none _ _ _ _ _ :: _) _ _); refine wpList_store_all27 rfl 82 (.tmp 11) (.tmp 35) rfl wr.heap.size #[.int .i64 2, .int .i64 line, .int .i64 pos, .slice bA bn bc, .slice kA kn kc] rfl rfl _ _ B3.out rfl actInfo (actV_one _ _ _ _ _ _ _ _ _) ?_; intro w4 hb4 ho4; have B4 := Lib.hid hb4; have O4 := Lib.hid (show Only [] wr w4 from O3.out.trans ho4 (by intro b hb; rw [List.mem_singleton] at hb; subst hb; exact .inr (Nat.le_refl _))); have z0 : w4.cell? ⟨wr.heap.size, 0, none⟩ = some (.int .i64 2) := B4.out.cell 0; have z1 : w4.cell? ⟨wr.heap.size, 1, none⟩ = some (.int .i64 line) := B4.out.cell 1; have z2 : w4.cell? ⟨wr.heap.size, 2, none⟩ = some (.int .i64 pos) := B4.out.cell 2; have z3 : w4.cell? ⟨wr.heap.size, 3, none⟩ = some (.slice bA bn bc) := B4.out.cell 3; have z4 : w4.cell? ⟨wr.heap.size, 4, none⟩ = some (.slice kA kn kc) := B4.out.cell 4; clear hb4 ho4))
        have D4 := Lib.hid (HD.out.only0 O4.out)
        have R4 := Lib.hid (HRR.out.only0 O4.out)
        refine (nvm_Fence g cb N D _ D4.out).mono ?_
        rintro e w5 ⟨rfl, d5, o5⟩
        have D5 := Lib.hid d5
        have R5 := Lib.hid (R4.out.only o5 (by simp; omega) (by simp; omega))
        have B5 := Lib.hid (Blk.only B4.out o5 (by simp; omega))
        have O5 := Lib.hid ((ON.out.trans0 O4.out).trans o5 (by intro b hb; simp at hb; rcases hb with rfl | rfl <;> omega))
        have M5 := Lib.hid o5
        clear d5 o5
        have y1 : w5.cell? ⟨wr.heap.size, 1, none⟩ = some (.int .i64 line) := B5.out.cell 1
        have y2 : w5.cell? ⟨wr.heap.size, 2, none⟩ = some (.int .i64 pos) := B5.out.cell 2
        have y3 : w5.cell? ⟨wr.heap.size, 3, none⟩ = some (.slice bA bn bc) := B5.out.cell 3
        have y4 : w5.cell? ⟨wr.heap.size, 4, none⟩ = some (.slice kA kn kc) := B5.out.cell 4
        go_wp2_with fail
        refine (ref3_Fence rg rb N D _ R5.out).mono ?_
        rintro e w6 ⟨rfl, d6, o6⟩
        have R6 := Lib.hid d6
        have D6 := Lib.hid (D5.out.only o6 (by simp; omega) (by simp; omega))
        have O6 := Lib.hid (O5.out.trans o6 (by intro b hb; simp at hb; rcases hb with rfl | rfl <;> omega))
        clear d6 o6
        go_wp2
        go_roundw
        case rel => exact ⟨k + 1, by omega, by go_num, by rw [HTK.out]; exact D6.out, by rw [HTK.out]; exact R6.out, O6.out⟩
        case measure => simp [intOf]; omega
      by_cases h3 : kind = 3
      · subst h3
        rw [show playD D ⟨3, line, pos, bl, keep⟩ = back1 D line by unfold playD; simp] at HTK
        go_wp2_with (first
          | ((with_reducible show wpList _ _ _ (Oper.mk (some 35) _ _ _ _ _ :: _) _ _); refine wpList_load_mid rfl 82 (.tmp 34) rfl b (off + k * 5) rfl [.int .i64 3, .int .i64 line, .int .i64 pos, .slice bA bn bc, .slice kA kn kc] _ HRW.out Try.underlying82 rfl (by kernel_rfl) ?_)
          | ((with_reducible show wpList _ _ _ (Oper.mk (some 11) _ _ _ _ _ :: _) _ _); refine wpList_alloc_blk rfl 82 rfl _ actZero ?_; intro w3 hb3 ho3 hs3; have B3 := Lib.hid hb3; have O3 := Lib.hid ho3; clear hb3 ho3)
          | ((with_reducible show wpList _ _ _ (Oper.mk none _ _ _ _ _ :: _) _ _); refine wpList_store_all27 rfl 82 (.tmp 11) (.tmp 35) rfl wr.heap.size #[.int .i64 3, .int .i64 line, .int .i64 pos, .slice bA bn bc, .slice kA kn kc] rfl rfl _ _ B3.out rfl actInfo (actV_one _ _ _ _ _ _ _ _ _) ?_; intro w4 hb4 ho4; have B4 := Lib.hid hb4; have O4 := Lib.hid (show Only [] wr w4 from O3.out.trans ho4 (by intro b hb; rw [List.mem_singleton] at hb; subst hb; exact .inr (Nat.le_refl _))); have z0 : w4.cell? ⟨wr.heap.size, 0, none⟩ = some (.int .i64 3) := B4.out.cell 0; have z1 : w4.cell? ⟨wr.heap.size, 1, none⟩ = some (.int .i64 line) := B4.out.cell 1; have z2 : w4.cell? ⟨wr.heap.size, 2, none⟩ = some (.int .i64 pos) := B4.out.cell 2; have z3 : w4.cell? ⟨wr.heap.size, 3, none⟩ = some (.slice bA bn bc) := B4.out.cell 3; have z4 : w4.cell? ⟨wr.heap.size, 4, none⟩ = some (.slice kA kn kc) := B4.out.cell 4; clear hb4 ho4))
        have D4 := Lib.hid (HD.out.only0 O4.out)
        have R4 := Lib.hid (HRR.out.only0 O4.out)
        refine (nvm_Back_any g cb N D line _ D4.out).mono ?_
        rintro e w5 ⟨rfl, d5, o5⟩
        have D5 := Lib.hid d5
        have R5 := Lib.hid (R4.out.only o5 (by simp; omega) (by simp; omega))
        have B5 := Lib.hid (Blk.only B4.out o5 (by simp; omega))
        have O5 := Lib.hid ((ON.out.trans0 O4.out).trans o5 (by intro b hb; simp at hb; rcases hb with rfl | rfl <;> omega))
        have M5 := Lib.hid o5
        clear d5 o5
        have y1 : w5.cell? ⟨wr.heap.size, 1, none⟩ = some (.int .i64 line) := B5.out.cell 1
        have y2 : w5.cell? ⟨wr.heap.size, 2, none⟩ = some (.int .i64 pos) := B5.out.cell 2
        have y3 : w5.cell? ⟨wr.heap.size, 3, none⟩ = some (.slice bA bn bc) := B5.out.cell 3
        have y4 : w5.cell? ⟨wr.heap.size, 4, none⟩ = some (.slice kA kn kc) := B5.out.cell 4
        go_wp2_with fail
        refine (ref3_Back_any rg rb N D line _ R5.out).mono ?_
        rintro e w6 ⟨rfl, d6, o6⟩
        have R6 := Lib.hid d6
        have D6 := Lib.hid (D5.out.only o6 (by simp; omega) (by simp; omega))
        have O6 := Lib.hid (O5.out.trans o6 (by intro b hb; simp at hb; rcases hb with rfl | rfl <;> omega))
        clear d6 o6
        go_wp2
        go_roundw
        case rel => exact ⟨k + 1, by omega, by go_num, by rw [HTK.out]; exact D6.out, by rw [HTK.out]; exact R6.out, O6.out⟩
        case measure => simp [intOf]; omega
      by_cases h4 : kind = 4
      · subst h4
        rw [show playD D ⟨4, line, pos, bl, keep⟩ = cutD D keep by unfold playD; simp] at HTK
        go_wp2_with (first
          | ((with_reducible show wpList _ _ _ (Oper.mk (some 35) _ _ _ _ _ :: _) _ _); refine wpList_load_mid rfl 82 (.tmp 34) rfl b (off + k * 5) rfl [.int .i64 4, .int .i64 line, .int .i64 pos, .slice bA bn bc, .slice kA kn kc] _ HRW.out Try.underlying82 rfl (by kernel_rfl) ?_)
          | ((with_reducible show wpList _ _ _ (Oper.mk (some 11) _ _ _ _ _ :: _) _ _); refine wpList_alloc_blk rfl 82 rfl _ actZero ?_; intro w3 hb3 ho3 hs3; have B3 := Lib.hid hb3; have O3 := Lib.hid ho3; clear hb3 ho3)
          | ((with_reducible show wpList _ _ _ (Oper.mk none _ _ _ _ _ :: _) _ _); refine wpList_store_all27 rfl 82 (.tmp 11) (.tmp 35) rfl wr.heap.size #[.int .i64 4, .int .i64 line, .int .i64 pos, .slice bA bn bc, .slice kA kn kc] rfl rfl _ _ B3.out rfl actInfo (actV_one _ _ _ _ _ _ _ _ _) ?_; intro w4 hb4 ho4; have B4 := Lib.hid hb4; have O4 := Lib.hid (show Only [] wr w4 from O3.out.trans ho4 (by intro b hb; rw [List.mem_singleton] at hb; subst hb; exact .inr (Nat.le_refl _))); have z0 : w4.cell? ⟨wr.heap.size, 0, none⟩ = some (.int .i64 4) := B4.out.cell 0; have z1 : w4.cell? ⟨wr.heap.size, 1, none⟩ = some (.int .i64 line) := B4.out.cell 1; have z2 : w4.cell? ⟨wr.heap.size, 2, none⟩ = some (.int .i64 pos) := B4.out.cell 2; have z3 : w4.cell? ⟨wr.heap.size, 3, none⟩ = some (.slice bA bn bc) := B4.out.cell 3; have z4 : w4.cell? ⟨wr.heap.size, 4, none⟩ = some (.slice kA kn kc) := B4.out.cell 4; clear hb4 ho4))
        have D4 := Lib.hid (HD.out.only0 O4.out)
        have R4 := Lib.hid (HRR.out.only0 O4.out)
        refine (nvm_Cut g cb N D kA kn kc keep _ D4.out (HIS.out.only0 O4.out) (by omega) (fun hp b' off' t e => by have := HSK.out hp b' off' t e; omega)).mono ?_
        rintro e w5 ⟨A5, c5, rfl, _, d5, o5⟩
        have D5 := Lib.hid d5
        have R5 := Lib.hid (R4.out.only o5 (by simp; omega) (by simp; omega))
        have B5 := Lib.hid (Blk.only B4.out o5 (by simp; omega))
        have O5 := Lib.hid ((ON.out.trans0 O4.out).trans o5 (by intro b hb; simp at hb; rcases hb with rfl | rfl <;> omega))
        have M5 := Lib.hid o5
        clear d5 o5
        have y1 : w5.cell? ⟨wr.heap.size, 1, none⟩ = some (.int .i64 line) := B5.out.cell 1
        have y2 : w5.cell? ⟨wr.heap.size, 2, none⟩ = some (.int .i64 pos) := B5.out.cell 2
        have y3 : w5.cell? ⟨wr.heap.size, 3, none⟩ = some (.slice bA bn bc) := B5.out.cell 3
        have y4 : w5.cell? ⟨wr.heap.size, 4, none⟩ = some (.slice kA kn kc) := B5.out.cell 4
        go_wp2_with fail
        refine (ref3_Cut rg rb N D kA kn kc keep _ R5.out (is_only_pos (HIS.out.only0 O4.out) M5.out (fun hp b' off' t e hb => by have := HSK.out hp b' off' t e; simp at hb; omega)) (by omega) (fun hp b' off' t e => by have := HSK.out hp b' off' t e; omega)).mono ?_
        rintro e w6 ⟨A6, c6, rfl, _, d6, o6⟩
        have R6 := Lib.hid d6
        have D6 := Lib.hid (D5.out.only o6 (by simp; omega) (by simp; omega))
        have O6 := Lib.hid (O5.out.trans o6 (by intro b hb; simp at hb; rcases hb with rfl | rfl <;> omega))
        clear d6 o6
        go_wp2
        go_roundw
        case rel => exact ⟨k + 1, by omega, by go_num, by rw [HTK.out]; exact D6.out, by rw [HTK.out]; exact R6.out, O6.out⟩
        case measure => simp [intOf]; omega
      rw [show playD D ⟨kind, line, pos, bl, keep⟩ = D by unfold playD; simp only; rw [if_neg h0, if_neg h1, if_neg h2, if_neg h3, if_neg h4]] at HTK
      go_wp2_with (first
        | ((with_reducible show wpList _ _ _ (Oper.mk (some 35) _ _ _ _ _ :: _) _ _); refine wpList_load_mid rfl 82 (.tmp 34) rfl b (off + k * 5) rfl [.int .i64 kind, .int .i64 line, .int .i64 pos, .slice bA bn bc, .slice kA kn kc] _ HRW.out Try.underlying82 rfl (by kernel_rfl) ?_)
        | ((with_reducible show wpList _ _ _ (Oper.mk (some 11) _ _ _ _ _ :: _) _ _); refine wpList_alloc_blk rfl 82 rfl _ actZero ?_; intro w3 hb3 ho3 hs3; have B3 := Lib.hid hb3; have O3 := Lib.hid ho3; clear hb3 ho3)
        | ((with_reducible show wpList _ _ _ (Oper.mk none _ _ _ _ _ :: _) _ _); refine wpList_store_all27 rfl 82 (.tmp 11) (.tmp 35) rfl wr.heap.size #[.int .i64 kind, .int .i64 line, .int .i64 pos, .slice bA bn bc, .slice kA kn kc] rfl rfl _ _ B3.out rfl actInfo (actV_one _ _ _ _ _ _ _ _ _) ?_; intro w4 hb4 ho4; have B4 := Lib.hid hb4; have O4 := Lib.hid (show Only [] wr w4 from O3.out.trans ho4 (by intro b hb; rw [List.mem_singleton] at hb; subst hb; exact .inr (Nat.le_refl _))); have z0 : w4.cell? ⟨wr.heap.size, 0, none⟩ = some (.int .i64 kind) := B4.out.cell 0; have z1 : w4.cell? ⟨wr.heap.size, 1, none⟩ = some (.int .i64 line) := B4.out.cell 1; have z2 : w4.cell? ⟨wr.heap.size, 2, none⟩ = some (.int .i64 pos) := B4.out.cell 2; have z3 : w4.cell? ⟨wr.heap.size, 3, none⟩ = some (.slice bA bn bc) := B4.out.cell 3; have z4 : w4.cell? ⟨wr.heap.size, 4, none⟩ = some (.slice kA kn kc) := B4.out.cell 4; clear hb4 ho4))
      have D4 := Lib.hid (HD.out.only0 O4.out)
      have R4 := Lib.hid (HRR.out.only0 O4.out)
      go_roundw
      case rel => exact ⟨k + 1, by omega, by go_num, by rw [HTK.out]; exact D4.out, by rw [HTK.out]; exact R4.out, ON.out.trans0 O4.out⟩
      case measure => simp [intOf]; omega
    · obtain rfl : k = m := by omega
      have q1 : decide ((k : Int) < (k : Int)) = false := by simp
      rw [List.take_of_length_le (by rw [HL.out]; exact Nat.le_refl _)] at hd hr
      have HD := Lib.hid hd
      have HRR := Lib.hid hr
      have ON := Lib.hid on
      clear hd on hr
      go_wp2
      go_ret2
      exact ⟨ON.out, .inr ⟨N, g, cb, rg, rb, rfl, hN1, hN2, rfl, HD.out, HRR.out, f1, f2, by omega, by omega, by omega, by omega, by omega, by omega⟩⟩
end Go.Proofs.Ytkbgoloedlpflaa
/- Law 27: both, whatever the number; the walk of ImageDumps. -/
set_option maxRecDepth 100000
namespace Go.Proofs.Ytkbgoloedlpflaa
open Go.RowKit Go.Proofs.FuMem Go.Proofs.FuNvm Go.Proofs.FuCode Go.Proofs.FuCrc Go.Proofs.FuImg
theorem law27_both (n : Int) (A : Option Addr) (m c : Nat) (xs : List (Deed × Holds)) (w : World) (h : Deeds w A m xs) (hsm : ∀ x ∈ xs, x.2.bn ≤ 100 ∧ x.2.kn ≤ 100) (hb : -9223372036854775808 ≤ n ∧ n ≤ 9223372036854775807) :
    Calls Try.prog 16 #[.int .i64 n, .slice A m c] w fun e w' => BothAns w n xs e w' := by
  by_cases hn : n < 1 ∨ 258 < n
  · refine (law27_both_no n A m c w h.2.1 hn hb).mono ?_
    rintro e w' ⟨rfl, o⟩
    exact ⟨o, .inl ⟨hn, rfl⟩⟩
  · obtain ⟨N, rfl⟩ := Int.eq_ofNat_of_zero_le (show 0 ≤ n by omega)
    exact law27_both_yes N A m c xs w h hsm (by omega) (by omega)
theorem countsInfo : (Try.prog.info? 45).map (·.size) = some 5 := by kernel_rfl
theorem countsV_one (a b c d e : Int) : (#[.int .i64 a, .int .i64 b, .int .i64 c, .int .i64 d, .int .i64 e] : Array Value).all (·.oneCell') = true := by
  simp [Value.oneCell']
set_option maxHeartbeats 8000000 in
theorem walk_ImageDumps (n : Int) (A : Option Addr) (m c : Nat) (xs : List (Deed × Holds)) (w : World) (hb : -9223372036854775808 ≤ n ∧ n ≤ 9223372036854775807) (h : Deeds w A m xs) (_hm : m ≤ c) :
    Calls Try.prog 5 #[.int .i64 n, .slice A m c] w fun e w' => e = .returned (.bool true) ∧ Only [] w w' := by
  have LG := Lib.hid (law27_large A m c xs w h)
  cases hlg : isLarge xs
  case true =>
    rw [hlg] at LG
    clear h
    go_enter Try.func5, Try.ntmps5
    go_wp2_with fail
    refine (LG.out).mono ?_
    rintro e w' ⟨rfl, rfl⟩
    go_wp2_with fail
    refine (law27_awake _).mono ?_
    rintro e w1 ⟨rfl, o1⟩
    go_wp2
    go_ret
    exact ⟨rfl, o1⟩
  rw [hlg] at LG
  by_cases h12 : 12 < n
  · have q0 : decide (12 < n) = true := by simpa using h12
    clear h
    go_enter Try.func5, Try.ntmps5
    go_wp2_with fail
    refine (LG.out).mono ?_
    rintro e w' ⟨rfl, rfl⟩
    go_wp2_with fail
    refine (law27_awake _).mono ?_
    rintro e w1 ⟨rfl, o1⟩
    go_wp2
    go_ret
    exact ⟨rfl, o1⟩
  have q0 : decide (12 < n) = false := by simpa using h12
  have BO := Lib.hid (law27_both n A m c xs w h (large_no hlg).2 hb)
  clear h
  go_enter Try.func5, Try.ntmps5
  go_wp2_with fail
  refine (LG.out).mono ?_
  rintro e w' ⟨rfl, rfl⟩
  go_wp2_with fail
  refine BO.out.mono ?_
  rintro e w1 ⟨o1, ⟨_, rfl⟩ | ⟨N, g, cb, rg, rb, rfl, hN1, hN2, rfl, d1, r1, f1, f2, f3, f4, x1, x2, x3, x4⟩⟩
  · have O1 := Lib.hid o1
    clear o1
    go_wp2_with fail
    refine (img_Dump_nil _).mono ?_
    rintro e w' ⟨rfl, rfl⟩
    go_wp2_with fail
    refine (law27_awake _).mono ?_
    rintro e w2 ⟨rfl, o2⟩
    have O2 := Lib.hid (O1.out.trans0 o2)
    clear o2
    go_wp2
    go_ret
    exact ⟨rfl, O2.out⟩
  · generalize playAll (newDev N) xs = D at *
    have O1 := Lib.hid o1
    have D1 := Lib.hid d1
    have R1 := Lib.hid r1
    clear o1 d1 r1
    go_wp2_with fail
    refine (nvm_Counts g cb N D _ D1.out).mono ?_
    rintro e w2 ⟨rfl, o2⟩
    have O2 := Lib.hid (O1.out.trans0 o2)
    have D2 := Lib.hid (D1.out.only0 o2)
    have R2 := Lib.hid (R1.out.only0 o2)
    -- BEGIN
    clear o2
    unfold countsV
    go_wp2_with (first
      | ((with_reducible show wpList _ _ _ (Oper.mk (some 9) _ _ _ _ _ :: _) _ _); refine wpList_alloc_blk rfl 45 rfl _ countsZero ?_; intro w3 hb3 ho3 hs3; have B3 := Lib.hid hb3; have O3 := Lib.hid ho3; clear hb3 ho3)
      | ((with_reducible show wpList _ _ _ (Oper.mk none _ _ _ _ _ :: _) _ _); refine wpList_store_all27 rfl 45 (.tmp 9) (.tmp 46) rfl w2.heap.size #[.int .i64 D.stores, .int .i64 D.flushes, .int .i64 D.fences, .int .i64 D.backs, .int .i64 D.cuts] rfl rfl _ _ B3.out rfl countsInfo (countsV_one _ _ _ _ _) ?_; intro w4 hb4 ho4; have B4 := Lib.hid hb4; have O4 := Lib.hid (show Only [] w2 w4 from O3.out.trans ho4 (by intro b hb; rw [List.mem_singleton] at hb; subst hb; exact .inr (Nat.le_refl _))); have hs4 := hb4.lt; clear hb4 ho4))
    have D4 := Lib.hid (D2.out.only0 O4.out)
    have R4 := Lib.hid (R2.out.only0 O4.out)
    have P4 := Lib.hid (O2.out.trans0 O4.out)
    have z1 := D2.out.lt1
    have z2 := D2.out.lt2
    have ID := Lib.hid (fun w hd => img_Dump g cb N D w hd)
    have RD := Lib.hid (fun w hd => r27_Dump rg rb N D w hd)
    refine (ID.out w4 D4.out).mono ?_
    rintro e w5 ⟨x5, rfl, A5, c5, rfl, b5, o5⟩
    have hpl := (img_parse D4.out.ok (by have := D4.out.few; omega)).1
    have hil : (itemsD D).length ≤ 258 := by
      have h1 := D4.out.few
      have : (itemsD D).length ≤ (List.range D.lines.length).length := List.length_filterMap_le _ _
      rw [List.length_range] at this
      omega
    have HIL := Lib.hid (show (imgOf D).length ≤ 1000000 by omega)
    clear hpl hil
    generalize imgOf D = l at *
    have D5 := Lib.hid (D4.out.only0 o5)
    have R5 := Lib.hid (R4.out.only0 o5)
    have P5 := Lib.hid (P4.out.trans0 o5)
    have B5 := Lib.hid (B4.out.only o5 (by simp))
    have E5 := Lib.hid b5
    have hs5 := o5.size
    clear b5 o5
    go_wp2_with fail
    refine (RD.out w5 R5.out).mono ?_
    rintro e w6 ⟨x6, rfl, A6, c6, rfl, b6, o6⟩
    have D6 := Lib.hid (D5.out.only0 o6)
    have P6 := Lib.hid (P5.out.trans0 o6)
    have B6 := Lib.hid (B5.out.only o6 (by simp))
    have E6 := Lib.hid (own_only E5.out o6 (by simp))
    have F6 := Lib.hid b6
    have hs6 := o6.size
    clear b6 o6
    go_wp2_with fail
    have dr : Only [] w6 w6.drew := (Only.refl _ _).drew
    have DD := Lib.hid (D6.out.only0 dr)
    have BD := Lib.hid (B6.out.only dr (by simp))
    have ED := Lib.hid (own_only E6.out dr (by simp))
    have FD := Lib.hid (own_only F6.out dr (by simp))
    have PD := Lib.hid (P6.out.trans0 dr)
    have z0w6 : w6.cell? ⟨w2.heap.size, 0, none⟩ = some (.int .i64 D.stores) := B6.out.cell 0
    have z1w6 : w6.cell? ⟨w2.heap.size, 1, none⟩ = some (.int .i64 D.flushes) := B6.out.cell 1
    have z2w6 : w6.cell? ⟨w2.heap.size, 2, none⟩ = some (.int .i64 D.fences) := B6.out.cell 2
    have z3w6 : w6.cell? ⟨w2.heap.size, 3, none⟩ = some (.int .i64 D.backs) := B6.out.cell 3
    have z4w6 : w6.cell? ⟨w2.heap.size, 4, none⟩ = some (.int .i64 D.cuts) := B6.out.cell 4
    clear dr
    go_region_held3 (fun w' => w'.cell? ⟨w2.heap.size, 0, none⟩ = some (.int .i64 D.stores) ∧ w'.cell? ⟨w2.heap.size, 1, none⟩ = some (.int .i64 D.flushes) ∧ w'.cell? ⟨w2.heap.size, 2, none⟩ = some (.int .i64 D.fences) ∧ w'.cell? ⟨w2.heap.size, 3, none⟩ = some (.int .i64 D.backs) ∧ w'.cell? ⟨w2.heap.size, 4, none⟩ = some (.int .i64 D.cuts)) (go_keep)
      (first
        | (go_at_call 21; refine (law0_SameBytes A5 A6 _ _ _ _ _ _ _ (bs_own ED.out) (bs_own FD.out)).mono ?_; rintro e wa ⟨rfl, rfl⟩; rw [beq_self_eq_true])
        | (go_at_call 12; refine (law0_Num _ _).mono ?_; rintro e wb ⟨rfl, rfl⟩)
        | (go_at_call 19; refine (nvm_Counts g cb N D _ DD.out).mono ?_; rintro e w7 ⟨rfl, o7⟩; have D7 := Lib.hid (DD.out.only0 o7); have B7 := Lib.hid (BD.out.only o7 (by simp)); have E7 := Lib.hid (own_only ED.out o7 (by simp)); have F7 := Lib.hid (own_only FD.out o7 (by simp)); have P7 := Lib.hid (PD.out.trans0 o7); have hs7 := o7.size; have q0w7 : w7.cell? ⟨w2.heap.size, 0, none⟩ = some (.int .i64 D.stores) := B7.out.cell 0; have q1w7 : w7.cell? ⟨w2.heap.size, 1, none⟩ = some (.int .i64 D.flushes) := B7.out.cell 1; have q2w7 : w7.cell? ⟨w2.heap.size, 2, none⟩ = some (.int .i64 D.fences) := B7.out.cell 2; have q3w7 : w7.cell? ⟨w2.heap.size, 3, none⟩ = some (.int .i64 D.backs) := B7.out.cell 3; have q4w7 : w7.cell? ⟨w2.heap.size, 4, none⟩ = some (.int .i64 D.cuts) := B7.out.cell 4; clear o7))
    obtain ⟨S, hS1, hS2⟩ := own_list E5.out
    have HS1 := Lib.hid hS1
    have HS2 := Lib.hid hS2
    have hp7 := P7.out.size
    have hp2 := O2.out.size
    have hil := HIL.out
    have hd6 : w6.heap.size ≤ w7.heap.size := by have := hs7; simpa using this
    clear hS1 hS2
    go_wp2_with fail
    refine (law0_OverBytes2 S w4.heap.size A5 _ c5 l _ E7.out (by omega) HS1.out (by omega)).mono ?_
    rintro e w8 ⟨rfl, o8⟩
    have hs8 := o8.size
    have D8 := Lib.hid (D7.out.only o8 (fun hb => by have h1 := HS2.out _ hb; omega) (fun hb => by have h1 := HS2.out _ hb; omega))
    have F8 := Lib.hid (own_only F7.out o8 (fun k hk hb => by have h1 := HS2.out k hb; obtain ⟨h2, _⟩ := own_ge F7.out k hk |> fun h => And.intro h trivial; omega))
    have P8 := Lib.hid (P7.out.trans o8 (fun b hb => .inr (by have h1 := HS2.out b hb; omega)))
    clear o8
    go_wp2_with fail
    refine (ID.out w8 D8.out).mono ?_
    rintro e w9 ⟨x9, rfl, A9, c9, rfl, b9, o9⟩
    have F9 := Lib.hid (own_only F8.out o9 (by simp))
    have E9 := Lib.hid b9
    have P9 := Lib.hid (P8.out.trans0 o9)
    clear b9 o9
    go_wp2_with fail
    refine (law0_SameBytes _ _ _ _ _ _ _ _ _ (bs_own E9.out) (bs_own F9.out)).mono ?_
    rintro e w' ⟨rfl, rfl⟩
    rw [beq_self_eq_true]
    go_wp2_with fail
    refine (law27_awake _).mono ?_
    rintro e wz ⟨rfl, oz⟩
    have PZ := Lib.hid (P9.out.trans0 oz)
    clear oz
    go_wp2
    go_ret
    exact ⟨rfl, PZ.out⟩
end Go.Proofs.Ytkbgoloedlpflaa
/- image.Unlike. -/
set_option maxRecDepth 100000
namespace Go.Proofs.Ytkbgoloedlpflaa
open Go.RowKit Go.Proofs.FuMem Go.Proofs.FuNvm Go.Proofs.FuCode Go.Proofs.FuCrc Go.Proofs.FuImg
def keptAt (D : Dev) (i : Nat) : Option (List UInt8) := D.lines[i]?.map (·.kept)
def unlikeTo (D E : Dev) (k : Nat) : List Int := ((List.range k).filter fun i => decide (keptAt D i ≠ keptAt E i)).map fun (i : Nat) => (i : Int)
def unlike (D E : Dev) : List Int := unlikeTo D E (max D.lines.length E.lines.length)
theorem unlikeTo_succ (D E : Dev) (k : Nat) : unlikeTo D E (k + 1) = if keptAt D k ≠ keptAt E k then unlikeTo D E k ++ [(k : Int)] else unlikeTo D E k := by
  unfold unlikeTo
  rw [List.range_succ, List.filter_append, List.map_append]
  by_cases h : keptAt D k ≠ keptAt E k
  · simp [h]
  · simp [h]
theorem unlikeTo_length (D E : Dev) (k : Nat) : (unlikeTo D E k).length ≤ k := by
  unfold unlikeTo
  rw [List.length_map]
  have := List.length_filter_le (fun i => decide (keptAt D i ≠ keptAt E i)) (List.range k)
  rw [List.length_range] at this
  exact this
set_option maxHeartbeats 4000000 in
theorem img_Unlike (ga cba capa gb cbb capb : Nat) (D E : Dev) (w : World) (hd : DevAt w ga cba capa D) (he : DevAt w gb cbb capb E) :
    Calls Try.prog 23 #[.pointer (some ⟨ga, 0, none⟩), .pointer (some ⟨gb, 0, none⟩)] w fun e w' => ∃ x, e = .returned x ∧ MadeI w (unlike D E) x w' := by
  have hf := hd.few
  have hf2 := he.few
  have HD := Lib.hid hd
  have HE := Lib.hid he
  have ld := nvm_Lines ga cba capa D w hd
  have le := nvm_Lines gb cbb capb E w he
  clear hd he
  obtain ⟨i0, hi, hz0, hz1, hz2⟩ := info_parts Try.intInfo
  have HI := Lib.hid hi
  have HZ0 := Lib.hid hz0
  have HZ1 := Lib.hid hz1
  have HZ2 := Lib.hid hz2
  clear hi hz0 hz1 hz2
  have HQ0 := Lib.hid (show unlike D E = unlikeTo D E (max D.lines.length E.lines.length) from rfl)
  obtain ⟨dl, hdl⟩ : ∃ dl, dl = D.lines.length := ⟨_, rfl⟩
  obtain ⟨el, hel⟩ : ∃ el, el = E.lines.length := ⟨_, rfl⟩
  rw [← hdl] at hf ld HQ0
  rw [← hel] at hf2 le HQ0
  have LD := Lib.hid ld
  have LE := Lib.hid le
  have HDL := Lib.hid hdl
  have HEL := Lib.hid hel
  clear ld le hdl hel
  by_cases hle : el < dl
  · have HQ := Lib.hid (show unlike D E = unlikeTo D E dl by rw [HQ0.out, Nat.max_eq_left (by omega)])
    go_enter Try.func23, Try.ntmps23
    go_wp2_with fail
    refine (LD.out).mono ?_
    rintro e w' ⟨rfl, rfl⟩
    go_wp2_with fail
    refine (LE.out).mono ?_
    rintro e w' ⟨rfl, rfl⟩
    go_wp2_with fail
    refine (LD.out).mono ?_
    rintro e w' ⟨rfl, rfl⟩
    go_wp2_with fail
    refine (LE.out).mono ?_
    rintro e w' ⟨rfl, rfl⟩
    go_wp2
    go_loopw [5, 7, 24] (fun v _ i wr => ∃ (k n : Nat), k ≤ dl ∧ i = .int .i64 k ∧ n = (unlikeTo D E k).length ∧ wr.ownsRow w.heap.size 3 1 v n ((unlikeTo D E k).map (.int .i64)) ∧ Only [] w wr) (fun _ _ i _ => dl - (intOf i).toNat)
    case atStart => exact ⟨0, 0, Nat.zero_le _, rfl, rfl, own_nil _ _ _ _, Only.refl _ _⟩
    case round =>
      obtain ⟨k, n, hk, rfl, hln, ho, on⟩ := hrel
      have hnk : n ≤ k := by rw [hln]; exact unlikeTo_length _ _ _
      have HLN := Lib.hid hln
      clear hln
      by_cases hlt : k < dl
      · have q1 : decide ((k : Int) < (dl : Int)) = true := by go_num
        by_cases hin : el ≤ k
        · have q2 : decide ((el : Int) ≤ (k : Int)) = true := by go_num
          have HNE := Lib.hid (show keptAt D k ≠ keptAt E k by
            unfold keptAt
            have HDL := HDL.out
            have HEL := HEL.out
            rw [List.getElem?_eq_getElem (show k < D.lines.length by omega), List.getElem?_eq_none (show E.lines.length ≤ k by omega)]
            simp)
          obtain ⟨A', c', w', hr, ho2, hs2, on2⟩ := append_own (P := Try.prog) (wr.alloc (.cells #[.int .i64 (k : Int)] 3)) (on.alloc _) 51 51 3 i0 _ 8 Try.underlying51 HI.out HZ0.out HZ1.out HZ2.out rfl _ n _ (ho.alloc _) (some ⟨wr.heap.size, 0, none⟩) 1 1 [.int .i64 (k : Int)] (cell_new1 _ _ _) (ints_new1 _ _) (by unfold maxLen; omega) (by omega)
          rw [show (unlikeTo D E k).map (Value.int .i64) ++ [.int .i64 (k : Int)] = (unlikeTo D E (k + 1)).map (.int .i64) by rw [unlikeTo_succ, if_pos HNE.out]; simp] at ho2
          have H1 := Lib.hid ho2
          have H2 := Lib.hid on2
          have LN := Lib.hid (show n + 1 = (unlikeTo D E (k + 1)).length by rw [unlikeTo_succ, if_pos HNE.out, List.length_append, List.length_singleton, HLN.out])
          clear ho2 on2 hs2
          go_wp2_with (at_builtin; refine wpList_append_run _ rfl (.tmp 39) (.tmp 41) 51 rfl _ _ rfl rfl _ _ hr ?_)
          go_roundw
          case rel => exact ⟨k + 1, n + 1, by omega, by go_num, LN.out, H1.out, H2.out⟩
          case measure => simp [intOf]; omega
        · have q2 : decide ((el : Int) ≤ (k : Int)) = false := by go_num
          have hx := lineOf_get (D := D) (i := k) (by rw [← HDL.out]; omega)
          have hy := lineOf_get (D := E) (i := k) (by rw [← HEL.out]; omega)
          generalize lineOf D (k : Int) = x at *
          generalize lineOf E (k : Int) = y at *
          have DR := Lib.hid (HD.out.only0 on)
          have ER := Lib.hid (HE.out.only0 on)
          have hx64 := (DR.out.ok x (List.mem_of_getElem? hx)).2.1
          have hy64 := (ER.out.ok y (List.mem_of_getElem? hy)).2.1
          have KD := Lib.hid (img_kept ga cba capa D k x hx wr DR.out)
          have KE := Lib.hid (fun w' (o : Only [] wr w') => img_kept gb cbb capb E k y hy w' (ER.out.only0 o))
          have hkx : keptAt D k = some x.kept := by unfold keptAt; rw [hx]; rfl
          have hky : keptAt E k = some y.kept := by unfold keptAt; rw [hy]; rfl
          by_cases hne : x.kept = y.kept
          · have HEQ := Lib.hid (show unlikeTo D E (k + 1) = unlikeTo D E k by rw [unlikeTo_succ, if_neg (by rw [hkx, hky, hne]; simp)])
            have hq : ∀ w, (binOp .neq 70 (arrV x.kept) (arrV y.kept)).run Try.prog w = .ok (.bool false) w := fun w => by rw [img_neq _ _ hx64 hy64, hne, bne_self_eq_false]
            have hgd := fun (a b : Operand) (w : World) => eqGuard_arr (P := Try.prog) imgGuard .neq a b x.kept y.kept w
            have HOW := Lib.hid ho
            have ON := Lib.hid on
            clear ho on hx hy hkx hky hne hx64 hy64
            generalize x.kept = lx at *
            generalize y.kept = ly at *
            go_wp2_with fail
            refine KD.out.mono ?_
            rintro e w4 ⟨rfl, o4⟩
            have O4 := Lib.hid o4
            clear o4
            go_wp2_with fail
            refine (KE.out w4 O4.out).mono ?_
            rintro e w5 ⟨rfl, o5⟩
            have O5 := Lib.hid (ON.out.trans0 (O4.out.trans0 o5))
            have HO5 := Lib.hid (own_only (own_only HOW.out O4.out (by simp)) o5 (by simp))
            clear o5
            go_wp2
            go_roundw
            case rel => exact ⟨k + 1, n, by omega, by go_num, by rw [HEQ.out]; exact HLN.out, by rw [HEQ.out]; exact HO5.out, O5.out⟩
            case measure => simp [intOf]; omega
          · have HNE := Lib.hid (show keptAt D k ≠ keptAt E k by rw [hkx, hky]; simpa using hne)
            have hq : ∀ w, (binOp .neq 70 (arrV x.kept) (arrV y.kept)).run Try.prog w = .ok (.bool true) w := fun w => by rw [img_neq _ _ hx64 hy64, bne_iff_ne.2 hne]
            have hgd := fun (a b : Operand) (w : World) => eqGuard_arr (P := Try.prog) imgGuard .neq a b x.kept y.kept w
            have HOW := Lib.hid ho
            have ON := Lib.hid on
            clear ho on hx hy hkx hky hne hx64 hy64
            generalize x.kept = lx at *
            generalize y.kept = ly at *
            go_wp2_with fail
            refine KD.out.mono ?_
            rintro e w4 ⟨rfl, o4⟩
            have O4 := Lib.hid o4
            clear o4
            go_wp2_with fail
            refine (KE.out w4 O4.out).mono ?_
            rintro e w5 ⟨rfl, o5⟩
            have O5 := Lib.hid (ON.out.trans0 (O4.out.trans0 o5))
            have HO5 := Lib.hid (own_only (own_only HOW.out O4.out (by simp)) o5 (by simp))
            clear o5
            obtain ⟨A', c', w', hr, ho2, hs2, on2⟩ := append_own (P := Try.prog) (w5.alloc (.cells #[.int .i64 (k : Int)] 3)) (O5.out.alloc _) 51 51 3 i0 _ 8 Try.underlying51 HI.out HZ0.out HZ1.out HZ2.out rfl _ n _ (HO5.out.alloc _) (some ⟨w5.heap.size, 0, none⟩) 1 1 [.int .i64 (k : Int)] (cell_new1 _ _ _) (ints_new1 _ _) (by unfold maxLen; omega) (by omega)
            rw [show (unlikeTo D E k).map (Value.int .i64) ++ [.int .i64 (k : Int)] = (unlikeTo D E (k + 1)).map (.int .i64) by rw [unlikeTo_succ, if_pos HNE.out]; simp] at ho2
            have H1 := Lib.hid ho2
            have H2 := Lib.hid on2
            have LN := Lib.hid (show n + 1 = (unlikeTo D E (k + 1)).length by rw [unlikeTo_succ, if_pos HNE.out, List.length_append, List.length_singleton, HLN.out])
            clear ho2 on2 hs2
            go_wp2_with (at_builtin; refine wpList_append_run _ rfl (.tmp 39) (.tmp 41) 51 rfl _ _ rfl rfl _ _ hr ?_)
            go_roundw
            case rel => exact ⟨k + 1, n + 1, by omega, by go_num, LN.out, H1.out, H2.out⟩
            case measure => simp [intOf]; omega
      · obtain rfl : k = dl := by omega
        obtain ⟨A', c', rfl, _, _⟩ := own_slice ho
        have H1 := Lib.hid ho
        have H2 := Lib.hid on
        clear ho on
        go_wp2
        go_ret
        refine ⟨.slice A' n c', rfl, ?_⟩
        rw [HQ.out]
        exact madeI_own HLN.out.symm H1.out H2.out
  · by_cases hle2 : dl < el
    · have HQ := Lib.hid (show unlike D E = unlikeTo D E el by rw [HQ0.out, Nat.max_eq_right (by omega)])
      go_enter Try.func23, Try.ntmps23
      go_wp2_with fail
      refine (LD.out).mono ?_
      rintro e w' ⟨rfl, rfl⟩
      go_wp2_with fail
      refine (LE.out).mono ?_
      rintro e w' ⟨rfl, rfl⟩
      go_wp2_with fail
      refine (LD.out).mono ?_
      rintro e w' ⟨rfl, rfl⟩
      go_wp2_with fail
      refine (LE.out).mono ?_
      rintro e w' ⟨rfl, rfl⟩
      go_wp2
      go_loopw [5, 7, 24] (fun v _ i wr => ∃ (k n : Nat), k ≤ el ∧ i = .int .i64 k ∧ n = (unlikeTo D E k).length ∧ wr.ownsRow w.heap.size 3 1 v n ((unlikeTo D E k).map (.int .i64)) ∧ Only [] w wr) (fun _ _ i _ => el - (intOf i).toNat)
      case atStart => exact ⟨0, 0, Nat.zero_le _, rfl, rfl, own_nil _ _ _ _, Only.refl _ _⟩
      case round =>
        obtain ⟨k, n, hk, rfl, hln, ho, on⟩ := hrel
        have hnk : n ≤ k := by rw [hln]; exact unlikeTo_length _ _ _
        have HLN := Lib.hid hln
        clear hln
        by_cases hlt : k < el
        · have q1 : decide ((k : Int) < (el : Int)) = true := by go_num
          by_cases hin : dl ≤ k
          · have q2 : decide ((dl : Int) ≤ (k : Int)) = true := by go_num
            have HNE := Lib.hid (show keptAt D k ≠ keptAt E k by
              unfold keptAt
              have HDL := HDL.out
              have HEL := HEL.out
              rw [List.getElem?_eq_none (show D.lines.length ≤ k by omega), List.getElem?_eq_getElem (show k < E.lines.length by omega)]
              simp)
            obtain ⟨A', c', w', hr, ho2, hs2, on2⟩ := append_own (P := Try.prog) (wr.alloc (.cells #[.int .i64 (k : Int)] 3)) (on.alloc _) 51 51 3 i0 _ 8 Try.underlying51 HI.out HZ0.out HZ1.out HZ2.out rfl _ n _ (ho.alloc _) (some ⟨wr.heap.size, 0, none⟩) 1 1 [.int .i64 (k : Int)] (cell_new1 _ _ _) (ints_new1 _ _) (by unfold maxLen; omega) (by omega)
            rw [show (unlikeTo D E k).map (Value.int .i64) ++ [.int .i64 (k : Int)] = (unlikeTo D E (k + 1)).map (.int .i64) by rw [unlikeTo_succ, if_pos HNE.out]; simp] at ho2
            have H1 := Lib.hid ho2
            have H2 := Lib.hid on2
            have LN := Lib.hid (show n + 1 = (unlikeTo D E (k + 1)).length by rw [unlikeTo_succ, if_pos HNE.out, List.length_append, List.length_singleton, HLN.out])
            clear ho2 on2 hs2
            go_wp2_with (at_builtin; refine wpList_append_run _ rfl (.tmp 39) (.tmp 41) 51 rfl _ _ rfl rfl _ _ hr ?_)
            go_roundw
            case rel => exact ⟨k + 1, n + 1, by omega, by go_num, LN.out, H1.out, H2.out⟩
            case measure => simp [intOf]; omega
          · have q2 : decide ((dl : Int) ≤ (k : Int)) = false := by go_num
            have hx := lineOf_get (D := D) (i := k) (by rw [← HDL.out]; omega)
            have hy := lineOf_get (D := E) (i := k) (by rw [← HEL.out]; omega)
            generalize lineOf D (k : Int) = x at *
            generalize lineOf E (k : Int) = y at *
            have DR := Lib.hid (HD.out.only0 on)
            have ER := Lib.hid (HE.out.only0 on)
            have hx64 := (DR.out.ok x (List.mem_of_getElem? hx)).2.1
            have hy64 := (ER.out.ok y (List.mem_of_getElem? hy)).2.1
            have KD := Lib.hid (img_kept ga cba capa D k x hx wr DR.out)
            have KE := Lib.hid (fun w' (o : Only [] wr w') => img_kept gb cbb capb E k y hy w' (ER.out.only0 o))
            have hkx : keptAt D k = some x.kept := by unfold keptAt; rw [hx]; rfl
            have hky : keptAt E k = some y.kept := by unfold keptAt; rw [hy]; rfl
            by_cases hne : x.kept = y.kept
            · have HEQ := Lib.hid (show unlikeTo D E (k + 1) = unlikeTo D E k by rw [unlikeTo_succ, if_neg (by rw [hkx, hky, hne]; simp)])
              have hq : ∀ w, (binOp .neq 70 (arrV x.kept) (arrV y.kept)).run Try.prog w = .ok (.bool false) w := fun w => by rw [img_neq _ _ hx64 hy64, hne, bne_self_eq_false]
              have hgd := fun (a b : Operand) (w : World) => eqGuard_arr (P := Try.prog) imgGuard .neq a b x.kept y.kept w
              have HOW := Lib.hid ho
              have ON := Lib.hid on
              clear ho on hx hy hkx hky hne hx64 hy64
              generalize x.kept = lx at *
              generalize y.kept = ly at *
              go_wp2_with fail
              refine KD.out.mono ?_
              rintro e w4 ⟨rfl, o4⟩
              have O4 := Lib.hid o4
              clear o4
              go_wp2_with fail
              refine (KE.out w4 O4.out).mono ?_
              rintro e w5 ⟨rfl, o5⟩
              have O5 := Lib.hid (ON.out.trans0 (O4.out.trans0 o5))
              have HO5 := Lib.hid (own_only (own_only HOW.out O4.out (by simp)) o5 (by simp))
              clear o5
              go_wp2
              go_roundw
              case rel => exact ⟨k + 1, n, by omega, by go_num, by rw [HEQ.out]; exact HLN.out, by rw [HEQ.out]; exact HO5.out, O5.out⟩
              case measure => simp [intOf]; omega
            · have HNE := Lib.hid (show keptAt D k ≠ keptAt E k by rw [hkx, hky]; simpa using hne)
              have hq : ∀ w, (binOp .neq 70 (arrV x.kept) (arrV y.kept)).run Try.prog w = .ok (.bool true) w := fun w => by rw [img_neq _ _ hx64 hy64, bne_iff_ne.2 hne]
              have hgd := fun (a b : Operand) (w : World) => eqGuard_arr (P := Try.prog) imgGuard .neq a b x.kept y.kept w
              have HOW := Lib.hid ho
              have ON := Lib.hid on
              clear ho on hx hy hkx hky hne hx64 hy64
              generalize x.kept = lx at *
              generalize y.kept = ly at *
              go_wp2_with fail
              refine KD.out.mono ?_
              rintro e w4 ⟨rfl, o4⟩
              have O4 := Lib.hid o4
              clear o4
              go_wp2_with fail
              refine (KE.out w4 O4.out).mono ?_
              rintro e w5 ⟨rfl, o5⟩
              have O5 := Lib.hid (ON.out.trans0 (O4.out.trans0 o5))
              have HO5 := Lib.hid (own_only (own_only HOW.out O4.out (by simp)) o5 (by simp))
              clear o5
              obtain ⟨A', c', w', hr, ho2, hs2, on2⟩ := append_own (P := Try.prog) (w5.alloc (.cells #[.int .i64 (k : Int)] 3)) (O5.out.alloc _) 51 51 3 i0 _ 8 Try.underlying51 HI.out HZ0.out HZ1.out HZ2.out rfl _ n _ (HO5.out.alloc _) (some ⟨w5.heap.size, 0, none⟩) 1 1 [.int .i64 (k : Int)] (cell_new1 _ _ _) (ints_new1 _ _) (by unfold maxLen; omega) (by omega)
              rw [show (unlikeTo D E k).map (Value.int .i64) ++ [.int .i64 (k : Int)] = (unlikeTo D E (k + 1)).map (.int .i64) by rw [unlikeTo_succ, if_pos HNE.out]; simp] at ho2
              have H1 := Lib.hid ho2
              have H2 := Lib.hid on2
              have LN := Lib.hid (show n + 1 = (unlikeTo D E (k + 1)).length by rw [unlikeTo_succ, if_pos HNE.out, List.length_append, List.length_singleton, HLN.out])
              clear ho2 on2 hs2
              go_wp2_with (at_builtin; refine wpList_append_run _ rfl (.tmp 39) (.tmp 41) 51 rfl _ _ rfl rfl _ _ hr ?_)
              go_roundw
              case rel => exact ⟨k + 1, n + 1, by omega, by go_num, LN.out, H1.out, H2.out⟩
              case measure => simp [intOf]; omega
        · obtain rfl : k = el := by omega
          obtain ⟨A', c', rfl, _, _⟩ := own_slice ho
          have H1 := Lib.hid ho
          have H2 := Lib.hid on
          clear ho on
          go_wp2
          go_ret
          refine ⟨.slice A' n c', rfl, ?_⟩
          rw [HQ.out]
          exact madeI_own HLN.out.symm H1.out H2.out
    · obtain rfl : dl = el := by omega
      have HQ := Lib.hid (show unlike D E = unlikeTo D E dl by rw [HQ0.out, Nat.max_self])
      go_enter Try.func23, Try.ntmps23
      go_wp2_with fail
      refine (LD.out).mono ?_
      rintro e w' ⟨rfl, rfl⟩
      go_wp2_with fail
      refine (LE.out).mono ?_
      rintro e w' ⟨rfl, rfl⟩
      go_wp2_with fail
      refine (LD.out).mono ?_
      rintro e w' ⟨rfl, rfl⟩
      go_wp2_with fail
      refine (LE.out).mono ?_
      rintro e w' ⟨rfl, rfl⟩
      go_wp2
      go_loopw [5, 7, 24] (fun v _ i wr => ∃ (k n : Nat), k ≤ dl ∧ i = .int .i64 k ∧ n = (unlikeTo D E k).length ∧ wr.ownsRow w.heap.size 3 1 v n ((unlikeTo D E k).map (.int .i64)) ∧ Only [] w wr) (fun _ _ i _ => dl - (intOf i).toNat)
      case atStart => exact ⟨0, 0, Nat.zero_le _, rfl, rfl, own_nil _ _ _ _, Only.refl _ _⟩
      case round =>
        obtain ⟨k, n, hk, rfl, hln, ho, on⟩ := hrel
        have hnk : n ≤ k := by rw [hln]; exact unlikeTo_length _ _ _
        have HLN := Lib.hid hln
        clear hln
        by_cases hlt : k < dl
        · have q1 : decide ((k : Int) < (dl : Int)) = true := by go_num
          by_cases hin : dl ≤ k
          · have q2 : decide ((dl : Int) ≤ (k : Int)) = true := by go_num
            have HNE := Lib.hid (show keptAt D k ≠ keptAt E k by
              unfold keptAt
              have HDL := HDL.out
              have HEL := HEL.out
              exact absurd hlt (by omega))
            exfalso
            omega
          · have q2 : decide ((dl : Int) ≤ (k : Int)) = false := by go_num
            have hx := lineOf_get (D := D) (i := k) (by rw [← HDL.out]; omega)
            have hy := lineOf_get (D := E) (i := k) (by rw [← HEL.out]; omega)
            generalize lineOf D (k : Int) = x at *
            generalize lineOf E (k : Int) = y at *
            have DR := Lib.hid (HD.out.only0 on)
            have ER := Lib.hid (HE.out.only0 on)
            have hx64 := (DR.out.ok x (List.mem_of_getElem? hx)).2.1
            have hy64 := (ER.out.ok y (List.mem_of_getElem? hy)).2.1
            have KD := Lib.hid (img_kept ga cba capa D k x hx wr DR.out)
            have KE := Lib.hid (fun w' (o : Only [] wr w') => img_kept gb cbb capb E k y hy w' (ER.out.only0 o))
            have hkx : keptAt D k = some x.kept := by unfold keptAt; rw [hx]; rfl
            have hky : keptAt E k = some y.kept := by unfold keptAt; rw [hy]; rfl
            by_cases hne : x.kept = y.kept
            · have HEQ := Lib.hid (show unlikeTo D E (k + 1) = unlikeTo D E k by rw [unlikeTo_succ, if_neg (by rw [hkx, hky, hne]; simp)])
              have hq : ∀ w, (binOp .neq 70 (arrV x.kept) (arrV y.kept)).run Try.prog w = .ok (.bool false) w := fun w => by rw [img_neq _ _ hx64 hy64, hne, bne_self_eq_false]
              have hgd := fun (a b : Operand) (w : World) => eqGuard_arr (P := Try.prog) imgGuard .neq a b x.kept y.kept w
              have HOW := Lib.hid ho
              have ON := Lib.hid on
              clear ho on hx hy hkx hky hne hx64 hy64
              generalize x.kept = lx at *
              generalize y.kept = ly at *
              go_wp2_with fail
              refine KD.out.mono ?_
              rintro e w4 ⟨rfl, o4⟩
              have O4 := Lib.hid o4
              clear o4
              go_wp2_with fail
              refine (KE.out w4 O4.out).mono ?_
              rintro e w5 ⟨rfl, o5⟩
              have O5 := Lib.hid (ON.out.trans0 (O4.out.trans0 o5))
              have HO5 := Lib.hid (own_only (own_only HOW.out O4.out (by simp)) o5 (by simp))
              clear o5
              go_wp2
              go_roundw
              case rel => exact ⟨k + 1, n, by omega, by go_num, by rw [HEQ.out]; exact HLN.out, by rw [HEQ.out]; exact HO5.out, O5.out⟩
              case measure => simp [intOf]; omega
            · have HNE := Lib.hid (show keptAt D k ≠ keptAt E k by rw [hkx, hky]; simpa using hne)
              have hq : ∀ w, (binOp .neq 70 (arrV x.kept) (arrV y.kept)).run Try.prog w = .ok (.bool true) w := fun w => by rw [img_neq _ _ hx64 hy64, bne_iff_ne.2 hne]
              have hgd := fun (a b : Operand) (w : World) => eqGuard_arr (P := Try.prog) imgGuard .neq a b x.kept y.kept w
              have HOW := Lib.hid ho
              have ON := Lib.hid on
              clear ho on hx hy hkx hky hne hx64 hy64
              generalize x.kept = lx at *
              generalize y.kept = ly at *
              go_wp2_with fail
              refine KD.out.mono ?_
              rintro e w4 ⟨rfl, o4⟩
              have O4 := Lib.hid o4
              clear o4
              go_wp2_with fail
              refine (KE.out w4 O4.out).mono ?_
              rintro e w5 ⟨rfl, o5⟩
              have O5 := Lib.hid (ON.out.trans0 (O4.out.trans0 o5))
              have HO5 := Lib.hid (own_only (own_only HOW.out O4.out (by simp)) o5 (by simp))
              clear o5
              obtain ⟨A', c', w', hr, ho2, hs2, on2⟩ := append_own (P := Try.prog) (w5.alloc (.cells #[.int .i64 (k : Int)] 3)) (O5.out.alloc _) 51 51 3 i0 _ 8 Try.underlying51 HI.out HZ0.out HZ1.out HZ2.out rfl _ n _ (HO5.out.alloc _) (some ⟨w5.heap.size, 0, none⟩) 1 1 [.int .i64 (k : Int)] (cell_new1 _ _ _) (ints_new1 _ _) (by unfold maxLen; omega) (by omega)
              rw [show (unlikeTo D E k).map (Value.int .i64) ++ [.int .i64 (k : Int)] = (unlikeTo D E (k + 1)).map (.int .i64) by rw [unlikeTo_succ, if_pos HNE.out]; simp] at ho2
              have H1 := Lib.hid ho2
              have H2 := Lib.hid on2
              have LN := Lib.hid (show n + 1 = (unlikeTo D E (k + 1)).length by rw [unlikeTo_succ, if_pos HNE.out, List.length_append, List.length_singleton, HLN.out])
              clear ho2 on2 hs2
              go_wp2_with (at_builtin; refine wpList_append_run _ rfl (.tmp 39) (.tmp 41) 51 rfl _ _ rfl rfl _ _ hr ?_)
              go_roundw
              case rel => exact ⟨k + 1, n + 1, by omega, by go_num, LN.out, H1.out, H2.out⟩
              case measure => simp [intOf]; omega
        · obtain rfl : k = dl := by omega
          obtain ⟨A', c', rfl, _, _⟩ := own_slice ho
          have H1 := Lib.hid ho
          have H2 := Lib.hid on
          clear ho on
          go_wp2
          go_ret
          refine ⟨.slice A' n c', rfl, ?_⟩
          rw [HQ.out]
          exact madeI_own HLN.out.symm H1.out H2.out
end Go.Proofs.Ytkbgoloedlpflaa
/- image.Same; Unlike and Same of no device. -/
set_option maxRecDepth 100000
namespace Go.Proofs.Ytkbgoloedlpflaa
open Go.RowKit Go.Proofs.FuMem Go.Proofs.FuNvm Go.Proofs.FuCode Go.Proofs.FuCrc Go.Proofs.FuImg
theorem img_Unlike_nil (v : Value) (p : Option Addr) (hv : v = .pointer p) (w : World) : Calls Try.prog 23 #[.pointer none, v] w fun e w' => e = .returned (.slice none 0 0) ∧ w = w' := by
  subst hv
  go_enter Try.func23, Try.ntmps23
  go_wp2
  go_ret
  exact ⟨rfl, rfl⟩
theorem img_Same_nil (p : Option Addr) (w : World) : Calls Try.prog 26 #[.pointer p, .pointer none] w fun e w' => e = .returned (.bool false) ∧ w = w' := by
  cases p with
  | none =>
    go_enter Try.func26, Try.ntmps26
    go_wp2
    go_ret
    exact ⟨rfl, rfl⟩
  | some a =>
    go_enter Try.func26, Try.ntmps26
    go_wp2
    go_ret
    exact ⟨rfl, rfl⟩
set_option maxHeartbeats 1000000 in
theorem img_Same (ga cba capa gb cbb capb : Nat) (D E : Dev) (w : World) (hd : DevAt w ga cba capa D) (he : DevAt w gb cbb capb E) :
    Calls Try.prog 26 #[.pointer (some ⟨ga, 0, none⟩), .pointer (some ⟨gb, 0, none⟩)] w fun e w' => e = .returned (.bool (decide (D.lines.length = E.lines.length ∧ unlike D E = []))) ∧ Only [] w w' := by
  have LD := Lib.hid (nvm_Lines ga cba capa D w hd)
  have LE := Lib.hid (nvm_Lines gb cbb capb E w he)
  have UN := Lib.hid (img_Unlike ga cba capa gb cbb capb D E w hd he)
  clear hd he
  by_cases hl : D.lines.length = E.lines.length
  · have HA := Lib.hid (show decide (D.lines.length = E.lines.length ∧ unlike D E = []) = decide ((unlike D E).length = 0) by simp [hl])
    rw [← hl] at LE
    clear hl
    rw [HA.out]
    obtain ⟨bb, hbb⟩ : ∃ bb, bb = decide ((unlike D E).length = 0) := ⟨_, rfl⟩
    rw [← hbb]
    have HBB := Lib.hid hbb
    clear hbb HA
    go_enter Try.func26, Try.ntmps26
    go_wp2_with fail
    refine (LD.out).mono ?_
    rintro e w' ⟨rfl, rfl⟩
    go_wp2_with fail
    refine (LE.out).mono ?_
    rintro e w' ⟨rfl, rfl⟩
    go_wp2_with fail
    refine UN.out.mono ?_
    rintro e w2 ⟨x, rfl, A2, c2, rfl, b2, o2⟩
    have O2 := Lib.hid o2
    clear b2 o2
    generalize (unlike D E).length = u at *
    by_cases h0 : u = 0
    · subst h0
      go_wp2
      go_ret
      exact ⟨by rw [HBB.out]; rfl, O2.out⟩
    · have q0 : ((u : Int) == 0) = false := by rw [beq_eq_false_iff_ne]; omega
      go_wp2
      go_ret
      exact ⟨by rw [HBB.out, decide_eq_false h0]; simp, O2.out⟩
  · have HA := Lib.hid (show decide (D.lines.length = E.lines.length ∧ unlike D E = []) = false by simp [hl])
    have q0 : ((D.lines.length : Int) == (E.lines.length : Int)) = false := by rw [beq_eq_false_iff_ne]; omega
    rw [HA.out]
    go_enter Try.func26, Try.ntmps26
    go_wp2_with fail
    refine (LD.out).mono ?_
    rintro e w' ⟨rfl, rfl⟩
    go_wp2_with fail
    refine (LE.out).mono ?_
    rintro e w' ⟨rfl, rfl⟩
    go_wp2
    go_ret
    exact ⟨rfl, Only.refl _ _⟩
end Go.Proofs.Ytkbgoloedlpflaa
