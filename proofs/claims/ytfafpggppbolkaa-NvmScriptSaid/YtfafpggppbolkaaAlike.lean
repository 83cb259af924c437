/- Law 3: do both devices tell the same? -/
import Derived.Test.YtfafpggppbolkaaDone
import Derived.Test.YtfafpggppbolkaaCuts
set_option maxRecDepth 100000
namespace Go.Proofs.Ytfafpggppbolkaa
open Go.RowKit Go.Proofs.FuMem Go.Proofs.FuNvm Go.Proofs.FuCode
/-- what was answered is written over: its block alone, and what is new -/
theorem law0_OverBytes2 (S : List Nat) (base : Nat) (A : Option Addr) (n c : Nat) (l : List UInt8) (w : World) (h : w.ownsRow base 5 1 (.slice A n c) n (l.map B)) (hbase : base ≤ w.heap.size) (hS : ∀ k, (Value.slice A n c).ownBlock = some k → k ∈ S) (hn : n ≤ 1000000) :
    Calls Try.prog 87 #[.slice A n c] w fun e w' => e = .returned (.tuple #[]) ∧ Only S w w' := by
  obtain ⟨i0, hi, hz0, hz1, hz2⟩ := info_parts Try.byteInfo
  have HI := Lib.hid hi
  have HZ0 := Lib.hid hz0
  have HZ1 := Lib.hid hz1
  have HZ2 := Lib.hid hz2
  have HO := Lib.hid h
  have HS := Lib.hid hS
  clear hi hz0 hz1 hz2 h hS
  go_enter Try.func87, Try.ntmps87
  go_wp2
  go_loopw [2] (fun i wr => ∃ (j : Nat) (l' : List UInt8), j ≤ n ∧ i = .int .i64 j ∧ wr.ownsRow base 5 1 (.slice A n c) n (l'.map B) ∧ Only S w wr) (fun i _ => n - (intOf i).toNat)
  case atStart => exact ⟨0, l, Nat.zero_le _, rfl, HO.out, Only.refl _ _⟩
  case round =>
    obtain ⟨j, l', hj, rfl, ho, on⟩ := hrel
    by_cases hlt : j < n
    · obtain ⟨g, rfl, hbg, hgg, ho⟩ := OwnB.of ho (by omega)
      have hcell := ho.cell j hlt
      have hfr := ho.frozen j
      have hst := ho.set j (xor8 (l'.getD j 0) 255 (by omega))
      have on2 := on.setCell (p := ⟨g, j, none⟩) (.inl (HS.out g rfl)) (.int .u8 (bits .xor .u8 ((l'.getD j 0).toNat : Int) ((255 : Nat) : Int)))
      rw [show ((255 : Nat) : Int) = 255 from rfl] at hst on2
      have H1 := Lib.hid hst
      have H2 := Lib.hid on2
      clear ho on hst on2
      generalize l'.set j (l'.getD j 0 ^^^ UInt8.ofNat 255) = l2 at *
      generalize (l'.getD j 0).toNat = x at *
      go_wp2
      go_roundw
      case rel => exact ⟨j + 1, l2, by omega, by go_num, H1.out, H2.out⟩
      case measure => simp [intOf]; omega
    · obtain rfl : j = n := by omega
      obtain ⟨v', w', hr, ho2, hg2, _⟩ := run_append_sl (P := Try.prog) (wr.alloc (.cells #[.int .u8 90] 5)) base 30 30 5 i0 _ 1 Try.underlying30 HI.out HZ0.out HZ1.out HZ2.out rfl _ j _ (ho.alloc _) (some ⟨wr.heap.size, 0, none⟩) 1 1 [.int .u8 90] (one_cell _ _ _) (one_ints _ _) (by unfold maxLen; omega) (by omega) (by have := on.size; simp; omega)
      have on2 : Only S w w' := (on.alloc _).trans (Only.of_grown hg2 (S := S) (fun k hk => .inl (HS.out k hk))) (fun b hb => .inl hb)
      have H2 := Lib.hid on2
      clear ho on ho2 hg2 on2
      go_wp2_with (at_builtin; refine wpList_append_run _ rfl (.tmp 17) (.tmp 18) 30 rfl _ _ rfl rfl _ _ hr ?_)
      go_end0
      exact ⟨rfl, H2.out⟩
/-- the list that holds a slice's own block -/
theorem own_list {w : World} {base : Nat} {e : TypeId} {size n : Nat} {v : Value} {xs : List Value} (h : w.ownsRow base e size v n xs) : ∃ S : List Nat, (∀ k, v.ownBlock = some k → k ∈ S) ∧ ∀ k ∈ S, base ≤ k ∧ k < w.heap.size := by
  refine ⟨v.ownBlock.toList, fun k hk => by rw [hk]; simp, fun k hk => ?_⟩
  have hk' : v.ownBlock = some k := by simpa using hk
  have h1 := World.ownsRow.lt h k hk'
  rcases h.2 with ⟨rfl, _⟩ | ⟨g, cap, cur, rfl, hbg, hg, _⟩
  · simp [Value.ownBlock] at hk'
  · have : g = k := by simpa [Value.ownBlock] using hk'
    subst this
    exact ⟨hbg, (Array.getElem?_eq_some_iff.1 hg).1⟩
set_option maxHeartbeats 16000000 in
theorem law3_alike (g cb cap rg rb rcap : Nat) (D : Dev) (w : World) (hd : DevAt w g cb cap D) (hr : RefAt w rg rb rcap D) :
    Calls Try.prog 53 #[.pointer (some ⟨g, 0, none⟩), .pointer (some ⟨rg, 0, none⟩)] w fun e w' => e = .returned (.bool true) ∧ Only [] w w' := by
  have hf := hd.few
  have HD := Lib.hid hd
  have HR := Lib.hid hr
  clear hd hr
  obtain ⟨m, hm⟩ : ∃ m, m = D.lines.length := ⟨_, rfl⟩
  rw [← hm] at hf
  have HM := Lib.hid hm
  clear hm
  go_enter Try.func53, Try.ntmps53
  go_wp2
  go_loopw [5, 6, 7, 8, 9, 10, 11, 12, 13] (fun i _ _ _ _ _ _ _ _ wr => ∃ j : Nat, j ≤ m + 2 ∧ i = .int .i64 ((j : Int) - 1) ∧ Only [] w wr) (fun i _ _ _ _ _ _ _ _ _ => m + 2 - (intOf i + 1).toNat)
  case atStart => exact ⟨0, Nat.zero_le _, rfl, Only.refl _ _⟩
  case round =>
    obtain ⟨j, hj, rfl, on⟩ := hrel
    have DR := Lib.hid (HD.out.only0 on)
    have RR := Lib.hid (HR.out.only0 on)
    have ON := Lib.hid on
    clear on
    have hc0 : wr.cell? ⟨rg, 0, none⟩ = some (.slice (some ⟨rb, 0, none⟩) m rcap) := by
      rw [RR.out.cell 0, HM.out]
      rfl
    by_cases hlt : j < m + 2
    · have q1 : decide ((j : Int) - 1 ≤ (m : Int)) = true := by rw [decide_eq_true_eq]; omega
      by_cases hin : 1 ≤ j ∧ j < m + 1
      · obtain ⟨k, rfl⟩ : ∃ k, j = k + 1 := ⟨j - 1, by omega⟩
        have ek : ((k + 1 : Nat) : Int) - 1 = (k : Int) := by omega
        rw [ek] at q1 ⊢
        have hx := lineOf_get (D := D) (i := k) (by rw [← HM.out]; omega)
        generalize lineOf D (k : Int) = x at *
        have HX := Lib.hid hx
        have hok := DR.out.ok x (List.mem_of_getElem? hx)
        have HN1 := Lib.hid hok.1
        have HN2 := Lib.hid hok.2.1
        have hkm : k < m := by omega
        clear hx hok hin ek
        go_wp2_with fail
        refine (nvm_Load g cb cap D k x HX.out _ DR.out).mono ?_
        rintro e w4 ⟨v4, rfl, m4⟩
        obtain ⟨A4, c4, rfl, b4, o4⟩ := madeB_own2 m4
        rw [HN1.out] at b4 ⊢
        have D4 := Lib.hid (DR.out.only0 o4)
        have R4 := Lib.hid (RR.out.only0 o4)
        have O4 := Lib.hid o4
        have B4 := Lib.hid b4
        clear m4 b4 o4
        go_wp2_with fail
        refine (ref3_Load rg rb rcap D k x HX.out _ R4.out).mono ?_
        rintro e w5 ⟨v5, rfl, g5, rfl, b5, f5, o5⟩
        rw [HN1.out] at b5 ⊢
        have hz5 := o5.size
        have D5 := Lib.hid (D4.out.only0 o5)
        have R5 := Lib.hid (R4.out.only0 o5)
        have O5 := Lib.hid (O4.out.trans0 o5)
        have B5 := Lib.hid (own_only B4.out o5 (by simp))
        have C5 := Lib.hid b5
        clear b5 o5 f5
        go_wp2_with fail
        refine (nvm_Durable g cb cap D k x HX.out _ D5.out).mono ?_
        rintro e w6 ⟨v6, rfl, m6⟩
        obtain ⟨A6, c6, rfl, b6, o6⟩ := madeB_own2 m6
        rw [HN2.out] at b6 ⊢
        have hs5 := O5.out.size
        have hs4 := O4.out.size
        have hz6 := o6.size
        have R6 := Lib.hid (R5.out.only0 o6)
        have O6 := Lib.hid (O5.out.trans0 o6)
        have B6 := Lib.hid (own_only B5.out o6 (by simp))
        have C6 := Lib.hid (Bs.only0 C5.out o6)
        have E6 := Lib.hid b6
        clear m6 b6 o6
        go_wp2_with fail
        refine (ref3_Durable rg rb rcap D k x HX.out _ R6.out).mono ?_
        rintro e w7 ⟨v7, rfl, g7, rfl, b7, f7, o7⟩
        rw [HN2.out] at b7 ⊢
        have hz7 := o7.size
        have O7 := Lib.hid (O6.out.trans0 o7)
        have B7 := Lib.hid (own_only B6.out o7 (by simp))
        have C7 := Lib.hid (Bs.only0 C6.out o7)
        have E7 := Lib.hid (own_only E6.out o7 (by simp))
        have F7 := Lib.hid b7
        clear b7 o7 f7
        go_wp2_with fail
        refine (law0_SameBytes _ _ _ _ _ _ _ _ _ (bs_own B7.out) C7.out).mono ?_
        rintro e w' ⟨rfl, rfl⟩
        rw [beq_self_eq_true]
        go_wp2_with fail
        refine (law0_Num _ _).mono ?_
        rintro e w' ⟨rfl, rfl⟩
        go_wp2_with fail
        refine (law0_SameBytes _ _ _ _ _ _ _ _ _ (bs_own E7.out) F7.out).mono ?_
        rintro e w' ⟨rfl, rfl⟩
        rw [beq_self_eq_true]
        go_wp2_with fail
        refine (law0_Num _ _).mono ?_
        rintro e w' ⟨rfl, rfl⟩
        have hs7 := O7.out.size
        obtain ⟨S, hS1, hS2⟩ := own_list B4.out
        have HS1 := Lib.hid hS1
        have HS2 := Lib.hid hS2
        clear hS1 hS2
        go_wp2_with fail
        refine (law0_OverBytes2 S wr.heap.size A4 64 c4 x.now _ B7.out hs7 HS1.out (by omega)).mono ?_
        rintro e w8 ⟨rfl, o8⟩
        have E8 := Lib.hid (own_only E7.out o8 (fun k hk hb => by have h1 := HS2.out k hb; have h2 := World.ownsRow.lt E7.out k hk; omega))
        have O8 := Lib.hid (O7.out.trans o8 (fun b hb => .inr (by have := HS2.out b hb; omega)))
        have hs8 := o8.size
        clear o8
        obtain ⟨S2, hT1, hT2⟩ := own_list E8.out
        have HT1 := Lib.hid hT1
        have HT2 := Lib.hid hT2
        clear hT1 hT2
        go_wp2_with fail
        refine (law0_OverBytes2 S2 w5.heap.size A6 64 c6 x.kept _ E8.out (by omega) HT1.out (by omega)).mono ?_
        rintro e w9 ⟨rfl, o9⟩
        have O9 := Lib.hid (O8.out.trans o9 (fun b hb => .inr (by have := HT2.out b hb; omega)))
        have OE := Lib.hid (ON.out.trans0 O9.out)
        clear o9
        go_wp2
        go_roundw
        case rel => exact ⟨k + 2, by omega, by go_num, OE.out⟩
        case measure => simp [intOf]; omega
      · have ho : (j : Int) - 1 < 0 ∨ (m : Int) ≤ (j : Int) - 1 := by omega
        have hnp : noPlace D.lines.length ((j : Int) - 1) 0 0 := by unfold noPlace; rw [← HM.out]; omega
        have hno : (j : Int) - 1 < 0 ∨ (D.lines.length : Int) ≤ (j : Int) - 1 := by rw [← HM.out]; exact ho
        have ej : (j : Int) - 1 + 1 = (((j + 1 : Nat) : Int) - 1) := by omega
        have hiv : -1 ≤ (j : Int) - 1 := by omega
        have hiw : (j : Int) - 1 ≤ 258 := by omega
        have hj1 : (j : Int) - 1 + 1 ≤ (j : Int) := by omega
        have hj2 : (j : Int) ≤ (j : Int) - 1 + 1 := by omega
        generalize (j : Int) - 1 = i at *
        have HNP := Lib.hid hnp
        have HNO := Lib.hid hno
        have EJ := Lib.hid ej
        clear hnp hno ho hin ej
        go_wp2_with fail
        refine (nvm_Load_no g cb cap D i _ DR.out HNP.out).mono ?_
        rintro e w' ⟨rfl, rfl⟩
        go_wp2_with fail
        refine (ref3_Load_no rg rb rcap D i _ RR.out HNO.out).mono ?_
        rintro e w' ⟨rfl, rfl⟩
        go_wp2_with fail
        refine (nvm_Durable_no g cb cap D i _ DR.out HNP.out).mono ?_
        rintro e w' ⟨rfl, rfl⟩
        go_wp2_with fail
        refine (ref3_Durable_no rg rb rcap D i _ RR.out HNO.out).mono ?_
        rintro e w' ⟨rfl, rfl⟩
        go_wp2_with fail
        refine (law0_SameBytes _ _ _ _ _ _ _ _ _ (Bs.nil _ _) (Bs.nil _ _)).mono ?_
        rintro e w' ⟨rfl, rfl⟩
        rw [beq_self_eq_true]
        go_wp2_with fail
        refine (law0_Num _ _).mono ?_
        rintro e w' ⟨rfl, rfl⟩
        go_wp2_with fail
        refine (law0_SameBytes _ _ _ _ _ _ _ _ _ (Bs.nil _ _) (Bs.nil _ _)).mono ?_
        rintro e w' ⟨rfl, rfl⟩
        rw [beq_self_eq_true]
        go_wp2_with fail
        refine (law0_Num _ _).mono ?_
        rintro e w' ⟨rfl, rfl⟩
        go_wp2_with fail
        refine (law0_OverBytes2 [] 0 none 0 0 [] _ (own_nil _ _ _ _) (Nat.zero_le _) (fun k h => by cases h) (by omega)).mono ?_
        rintro e w8 ⟨rfl, o8⟩
        have O8 := Lib.hid o8
        clear o8
        go_wp2_with fail
        refine (law0_OverBytes2 [] 0 none 0 0 [] _ (own_nil _ _ _ _) (Nat.zero_le _) (fun k h => by cases h) (by omega)).mono ?_
        rintro e w9 ⟨rfl, o9⟩
        have O9 := Lib.hid ((ON.out.trans0 O8.out).trans0 o9)
        clear o9
        go_wp2
        go_roundw
        case rel => exact ⟨j + 1, by omega, by rw [EJ.out], O9.out⟩
        case measure => simp [intOf]; omega
    · obtain rfl : j = m + 2 := by omega
      have q1 : decide (((m + 2 : Nat) : Int) - 1 ≤ (m : Int)) = false := by rw [decide_eq_false_iff_not]; omega
      have hfl := those_few (fun x => x.now != x.kept) D.lines D.lines.length
      have hfw := those_few (fun x => x.sent) D.lines D.lines.length
      rw [← HM.out] at hfl hfw
      have HFL := Lib.hid hfl
      have HFW := Lib.hid hfw
      clear hfl hfw
      have hl1 := DR.out.lt1
      have hr1 := RR.out.lt1
      go_wp2_with fail
      refine (nvm_Loose g cb cap D _ DR.out).mono ?_
      rintro e w4 ⟨v4, rfl, A4, c4, rfl, b4, o4⟩
      rw [← HM.out] at b4 ⊢
      have D4 := Lib.hid (DR.out.only0 o4)
      have R4 := Lib.hid (RR.out.only0 o4)
      have O4 := Lib.hid o4
      have B4 := Lib.hid b4
      have hz4 := o4.size
      clear b4 o4
      go_wp2_with fail
      refine (nvm_Way g cb cap D _ D4.out).mono ?_
      rintro e w5 ⟨v5, rfl, A5, c5, rfl, b5, o5⟩
      rw [← HM.out] at b5 ⊢
      have hz5 := o5.size
      have D5 := Lib.hid (D4.out.only0 o5)
      have R5 := Lib.hid (R4.out.only0 o5)
      have O5 := Lib.hid (O4.out.trans0 o5)
      have B5 := Lib.hid (own_only B4.out o5 (by simp))
      have E5 := Lib.hid b5
      clear b5 o5 hc0
      go_wp2_with fail
      have dr : Only [] w5 w5.drew := (Only.refl _ _).drew
      have DD := Lib.hid (D5.out.only0 dr)
      have RD := Lib.hid (R5.out.only0 dr)
      have BD := Lib.hid (own_only B5.out dr (by simp))
      have ED := Lib.hid (own_only E5.out dr (by simp))
      have OD := Lib.hid (O5.out.trans0 dr)
      have x0 : w5.cell? ⟨rg, 0, none⟩ = some (.slice (some ⟨rb, 0, none⟩) m rcap) := by rw [R5.out.cell 0, HM.out]; rfl
      have x1 : w5.cell? ⟨rg, 1, none⟩ = some (.int .i64 D.stores) := R5.out.cell 1
      have x2 : w5.cell? ⟨rg, 2, none⟩ = some (.int .i64 D.flushes) := R5.out.cell 2
      have x3 : w5.cell? ⟨rg, 3, none⟩ = some (.int .i64 D.fences) := R5.out.cell 3
      have x4 : w5.cell? ⟨rg, 4, none⟩ = some (.int .i64 D.backs) := R5.out.cell 4
      have x5 : w5.cell? ⟨rg, 5, none⟩ = some (.int .i64 D.cuts) := R5.out.cell 5
      clear dr
      go_region_held3 (fun w' => w'.cell? ⟨rg, 0, none⟩ = some (.slice (some ⟨rb, 0, none⟩) m rcap) ∧ w'.cell? ⟨rg, 1, none⟩ = some (.int .i64 D.stores) ∧ w'.cell? ⟨rg, 2, none⟩ = some (.int .i64 D.flushes) ∧ w'.cell? ⟨rg, 3, none⟩ = some (.int .i64 D.fences) ∧ w'.cell? ⟨rg, 4, none⟩ = some (.int .i64 D.backs) ∧ w'.cell? ⟨rg, 5, none⟩ = some (.int .i64 D.cuts)) (go_keep)
        (first
          | (go_at_call 88; refine (ref3_Loose rg rb rcap D _ RD.out).mono ?_; rintro e w6 ⟨v6, rfl, A6, c6, rfl, b6, o6⟩; rw [← HM.out] at b6 ⊢; have F6 := Lib.hid b6; have R6 := Lib.hid (RD.out.only0 o6); have D6 := Lib.hid (DD.out.only0 o6); have B6 := Lib.hid (own_only BD.out o6 (by simp)); have E6 := Lib.hid (own_only ED.out o6 (by simp)); have O6 := Lib.hid (OD.out.trans0 o6); have q0w6 : w6.cell? ⟨rg, 0, none⟩ = some (.slice (some ⟨rb, 0, none⟩) m rcap) := (by rw [R6.out.cell 0, HM.out]; rfl); have q1w6 : w6.cell? ⟨rg, 1, none⟩ = some (.int .i64 D.stores) := R6.out.cell 1; have q2w6 : w6.cell? ⟨rg, 2, none⟩ = some (.int .i64 D.flushes) := R6.out.cell 2; have q3w6 : w6.cell? ⟨rg, 3, none⟩ = some (.int .i64 D.fences) := R6.out.cell 3; have q4w6 : w6.cell? ⟨rg, 4, none⟩ = some (.int .i64 D.backs) := R6.out.cell 4; have q5w6 : w6.cell? ⟨rg, 5, none⟩ = some (.int .i64 D.cuts) := R6.out.cell 5; clear b6 o6)
          | (go_at_call 56; refine (law0_SameInts A5 A8 _ _ _ _ _ _ _ (is_own E8.out) (is_own F8.out) (by have := HFW.out; omega) (by have := HFW.out; omega)).mono ?_; rintro e w9 ⟨rfl, o9⟩; rw [beq_self_eq_true]; have R9 := Lib.hid (R8.out.only0 o9); have D9 := Lib.hid (D8.out.only0 o9); have B9 := Lib.hid (own_only B8.out o9 (by simp)); have E9 := Lib.hid (own_only E8.out o9 (by simp)); have O9 := Lib.hid (O8.out.trans0 o9); have q0w9 : w9.cell? ⟨rg, 0, none⟩ = some (.slice (some ⟨rb, 0, none⟩) m rcap) := (by rw [R9.out.cell 0, HM.out]; rfl); have q1w9 : w9.cell? ⟨rg, 1, none⟩ = some (.int .i64 D.stores) := R9.out.cell 1; have q2w9 : w9.cell? ⟨rg, 2, none⟩ = some (.int .i64 D.flushes) := R9.out.cell 2; have q3w9 : w9.cell? ⟨rg, 3, none⟩ = some (.int .i64 D.fences) := R9.out.cell 3; have q4w9 : w9.cell? ⟨rg, 4, none⟩ = some (.int .i64 D.backs) := R9.out.cell 4; have q5w9 : w9.cell? ⟨rg, 5, none⟩ = some (.int .i64 D.cuts) := R9.out.cell 5; clear o9)
          | (go_at_call 56; refine (law0_SameInts A4 A6 _ _ _ _ _ _ _ (is_own B6.out) (is_own F6.out) (by have := HFL.out; omega) (by have := HFL.out; omega)).mono ?_; rintro e w7 ⟨rfl, o7⟩; rw [beq_self_eq_true]; have R7 := Lib.hid (R6.out.only0 o7); have D7 := Lib.hid (D6.out.only0 o7); have B7 := Lib.hid (own_only B6.out o7 (by simp)); have E7 := Lib.hid (own_only E6.out o7 (by simp)); have O7 := Lib.hid (O6.out.trans0 o7); have q0w7 : w7.cell? ⟨rg, 0, none⟩ = some (.slice (some ⟨rb, 0, none⟩) m rcap) := (by rw [R7.out.cell 0, HM.out]; rfl); have q1w7 : w7.cell? ⟨rg, 1, none⟩ = some (.int .i64 D.stores) := R7.out.cell 1; have q2w7 : w7.cell? ⟨rg, 2, none⟩ = some (.int .i64 D.flushes) := R7.out.cell 2; have q3w7 : w7.cell? ⟨rg, 3, none⟩ = some (.int .i64 D.fences) := R7.out.cell 3; have q4w7 : w7.cell? ⟨rg, 4, none⟩ = some (.int .i64 D.backs) := R7.out.cell 4; have q5w7 : w7.cell? ⟨rg, 5, none⟩ = some (.int .i64 D.cuts) := R7.out.cell 5; clear o7)
          | (go_at_call 89; refine (ref3_Way rg rb rcap D _ R7.out).mono ?_; rintro e w8 ⟨v8, rfl, A8, c8, rfl, b8, o8⟩; rw [← HM.out] at b8 ⊢; have F8 := Lib.hid b8; have R8 := Lib.hid (R7.out.only0 o8); have D8 := Lib.hid (D7.out.only0 o8); have B8 := Lib.hid (own_only B7.out o8 (by simp)); have E8 := Lib.hid (own_only E7.out o8 (by simp)); have O8 := Lib.hid (O7.out.trans0 o8); have q0w8 : w8.cell? ⟨rg, 0, none⟩ = some (.slice (some ⟨rb, 0, none⟩) m rcap) := (by rw [R8.out.cell 0, HM.out]; rfl); have q1w8 : w8.cell? ⟨rg, 1, none⟩ = some (.int .i64 D.stores) := R8.out.cell 1; have q2w8 : w8.cell? ⟨rg, 2, none⟩ = some (.int .i64 D.flushes) := R8.out.cell 2; have q3w8 : w8.cell? ⟨rg, 3, none⟩ = some (.int .i64 D.fences) := R8.out.cell 3; have q4w8 : w8.cell? ⟨rg, 4, none⟩ = some (.int .i64 D.backs) := R8.out.cell 4; have q5w8 : w8.cell? ⟨rg, 5, none⟩ = some (.int .i64 D.cuts) := R8.out.cell 5; clear b8 o8)
          | (go_at_call 55; refine (nvm_Counts g cb cap D _ D9.out).mono ?_; rintro e wa ⟨rfl, oa⟩; have Ra := Lib.hid (R9.out.only0 oa); have Da := Lib.hid (D9.out.only0 oa); have Ba := Lib.hid (own_only B9.out oa (by simp)); have Ea := Lib.hid (own_only E9.out oa (by simp)); have Oa := Lib.hid (O9.out.trans0 oa); have q0wa : wa.cell? ⟨rg, 0, none⟩ = some (.slice (some ⟨rb, 0, none⟩) m rcap) := (by rw [Ra.out.cell 0, HM.out]; rfl); have q1wa : wa.cell? ⟨rg, 1, none⟩ = some (.int .i64 D.stores) := Ra.out.cell 1; have q2wa : wa.cell? ⟨rg, 2, none⟩ = some (.int .i64 D.flushes) := Ra.out.cell 2; have q3wa : wa.cell? ⟨rg, 3, none⟩ = some (.int .i64 D.fences) := Ra.out.cell 3; have q4wa : wa.cell? ⟨rg, 4, none⟩ = some (.int .i64 D.backs) := Ra.out.cell 4; have q5wa : wa.cell? ⟨rg, 5, none⟩ = some (.int .i64 D.cuts) := Ra.out.cell 5; clear oa)
          | (go_at_call 54; refine (nvm_Lines g cb cap D _ Da.out).mono ?_; rintro e wb ⟨rfl, rfl⟩; rw [← HM.out]))
      obtain ⟨S, hS1, hS2⟩ := own_list B4.out
      have HS1 := Lib.hid hS1
      have HS2 := Lib.hid hS2
      have hsa := Oa.out.size
      have hfl := HFL.out
      have hfw := HFW.out
      clear hS1 hS2
      go_wp2_with fail
      refine (law0_OverInts2 S wr.heap.size A4 _ c4 _ _ Ba.out hsa HS1.out (by omega)).mono ?_
      rintro e wc ⟨rfl, oc⟩
      have Ec := Lib.hid (own_only Ea.out oc (fun k hk hb => by have h1 := HS2.out k hb; have h2 := World.ownsRow.lt Ea.out k hk; omega))
      have Oc := Lib.hid (Oa.out.trans oc (fun b hb => .inr (by have := HS2.out b hb; omega)))
      have hsc := Oc.out.size
      clear oc
      obtain ⟨S2, hT1, hT2⟩ := own_list Ec.out
      have HT1 := Lib.hid hT1
      have HT2 := Lib.hid hT2
      clear hT1 hT2
      go_wp2_with fail
      refine (law0_OverInts2 S2 wr.heap.size A5 _ c5 _ _ (World.ownsRow.mono Ec.out hz4) hsc HT1.out (by omega)).mono ?_
      rintro e wd ⟨rfl, od⟩
      have Od := Lib.hid (ON.out.trans0 (Oc.out.trans od (fun b hb => .inr (by have := HT2.out b hb; omega))))
      clear od
      go_wp2
      go_ret
      exact ⟨rfl, Od.out⟩
end Go.Proofs.Ytfafpggppbolkaa
