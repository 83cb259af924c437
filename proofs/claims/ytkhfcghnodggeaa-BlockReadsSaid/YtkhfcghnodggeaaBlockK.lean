/- The contract of block.Decode. -/
import Derived.Test.YtkhfcghnodggeaaBlockI
import Derived.Deep.RegionHeld3
namespace Go.Proofs.Ytkhfcghnodggeaa
open Go.RowKit Go.Proofs.FuMem Go.Proofs.FuCode Go.Proofs.FuClass Go.Proofs.FuBlock Go.Proofs.FuEq Go.Proofs.FuCrc
set_option maxRecDepth 100000
set_option maxHeartbeats 3000000 in
theorem block_Decode (A : Option Addr) (n c : Nat) (l : List UInt8) (w : World) (h : Bs w A n l) (hn : n ≤ 1000000) (hc : n ≤ c) :
    Calls Try.prog 20 #[.slice A n c] w fun e w' => e = .returned (backV l) ∧ Only [] w w' := by
  have hl := h.len
  have o1 : Only [] w (w.alloc (.cells #[.int .i64 0, .int .i64 0, .int .u64 0, .int .u64 0, .int .u64 0, .string ⟨#[]⟩, .string ⟨#[]⟩] 24)) := (Only.refl _ _).alloc _
  have HR := Lib.hid (Blk.new w 24 #[.int .i64 0, .int .i64 0, .int .u64 0, .int .u64 0, .int .u64 0, .string ⟨#[]⟩, .string ⟨#[]⟩])
  have HB := Lib.hid (h.only0 o1)
  have O1 := Lib.hid o1
  clear o1 h
  by_cases hn64 : 64 ≤ n
  case neg =>
    have hx : backV l = noneV := backV_no fun x => hn64 (by have := x.1; omega)
    rw [hx]
    clear hx hl
    have q0 : decide ((n : Int) < 64) = true := by rw [decide_eq_true_eq]; omega
    go_enter Try.func20, Try.ntmps20
    go_wp2_with ((with_reducible show wpList _ _ _ (Oper.mk none _ _ _ _ _ :: _) _ _); refine wpList_store_all rfl 24 (.tmp 2) (.tmp 16) rfl w.heap.size #[.int .i64 0, .int .i64 0, .int .u64 0, .int .u64 0, .int .u64 0, .string ⟨#[]⟩, .string ⟨#[]⟩] rfl rfl _ _ HR.out rfl blockInfo (blockV_one 0 0 0 0 0 ⟨#[]⟩ ⟨#[]⟩) ?_; intro w2 hb2 ho2; have B2 := Lib.hid hb2; have O2 := Lib.hid (O1.out.trans ho2 (by simp)); clear hb2 ho2)
    refine bodyPost_ret (dec_end B2.out rfl rfl rfl) rfl ⟨rfl, O2.out⟩
  have hl64 : 64 ≤ l.length := by omega
  have hb0 := HB.out
  obtain ⟨b, off, rfl, hcell⟩ := hb0.at_ (by omega)
  have hcut := HB.out.cut (a := 0) (m := 64) (by omega)
  rw [Nat.add_zero, List.drop_zero] at hcut
  have HH := Lib.hid (block_Head (some ⟨b, off, none⟩) 64 c (l.take 64) _ hcut (by omega))
  have q0 : decide ((n : Int) < 64) = false := by rw [decide_eq_false_iff_not]; omega
  have hbw := HB.out.lt (by omega) rfl
  clear hcut hb0 hcell
  by_cases hh : isHead (l.take 64)
  case neg =>
    rw [backV_no fun x => hh (reads_head x)]
    rw [headOf_no hh] at HH
    clear hh hl
    go_enter Try.func20, Try.ntmps20
    go_wp2_with fail
    refine HH.out.mono ?_
    rintro e w1 ⟨rfl, o1⟩
    have HR1 := Lib.hid (HR.out.only o1 (by simp))
    have O1' := Lib.hid (O1.out.trans0 o1)
    clear o1
    go_wp2_with ((with_reducible show wpList _ _ _ (Oper.mk none _ _ _ _ _ :: _) _ _); refine wpList_store_all rfl 24 (.tmp 2) (.tmp 34) rfl w.heap.size #[.int .i64 0, .int .i64 0, .int .u64 0, .int .u64 0, .int .u64 0, .string ⟨#[]⟩, .string ⟨#[]⟩] rfl rfl _ _ HR1.out rfl blockInfo (blockV_one 0 0 0 0 0 ⟨#[]⟩ ⟨#[]⟩) ?_; intro w2 hb2 ho2; have B2 := Lib.hid hb2; have O2 := Lib.hid (O1'.out.trans ho2 (by simp)); clear hb2 ho2)
    refine bodyPost_ret (dec_end B2.out rfl rfl rfl) rfl ⟨rfl, O2.out⟩
  rw [headOf_yes hh] at HH
  have hp3 : (l.getD 1 0).toNat ≤ 3 := ((headOf_take hl64).1 hh).2.1
  have hq3 : (l.getD 2 0).toNat ≤ 3 := ((headOf_take hl64).1 hh).2.2
  have hk3 := (l.getD 3 0).toNat_lt
  have hbx := HB.out
  obtain ⟨b', off', hbb, hcell⟩ := hbx.at_ (by omega)
  cases hbb
  have x3 := hcell 3 (by omega)
  have g3 : l.getD 3 0 = l[3] := getD_eq (by omega)
  rw [← g3] at x3
  have hpar : parse l = ⟨(l.getD 1 0).toNat, (l.getD 2 0).toNat, num ((l.drop 8).take 8), num ((l.drop 16).take 8), num ((l.drop 24).take 8), (dataOf (span (l.getD 1 0).toNat) l).take (l.getD 3 0).toNat, ((dataOf (span (l.getD 1 0).toNat) l).drop (l.getD 3 0).toNat).take (num ((l.drop 4).take 2))⟩ := rfl
  have hrd : reads l ↔ 64 ≤ l.length ∧ l.length = 64 * span (l.getD 1 0).toNat ∧ (l.getD 3 0).toNat + num ((l.drop 4).take 2) ≤ capN (l.getD 1 0).toNat ∧ may (parse l) = true ∧ lines (parse l) = l := Iff.rfl
  have n4 : num ((l.drop 4).take 2) < 65536 := by
    have := num_lt ((l.drop 4).take 2)
    rw [List.length_take, Nat.min_eq_left (by rw [List.length_drop]; omega)] at this
    exact this
  have nb : ∀ a, a + 8 ≤ l.length → num ((l.drop a).take 8) < 18446744073709551616 := fun a ha => by
    have := num_lt ((l.drop a).take 8)
    rw [List.length_take, Nat.min_eq_left (by rw [List.length_drop]; omega)] at this
    exact this
  have n8 := nb 8 (by omega)
  have n16 := nb 16 (by omega)
  have n24 := nb 24 (by omega)
  have HG4 := Lib.hid (fun w' (hw : Bs w' (some ⟨b, off, none⟩) n l) => Calls.flip (block_get (some ⟨b, off, none⟩) n c l 4 2 w' hw hn (by omega) (by omega)))
  obtain ⟨F, f8, f16, f24, hF⟩ : ∃ F : Int → Nat, num ((l.drop 8).take 8) = F 8 ∧ num ((l.drop 16).take 8) = F 16 ∧ num ((l.drop 24).take 8) = F 24 ∧ ∀ (x : Int), (x = 8 ∨ x = 16 ∨ x = 24) → ∀ w', Bs w' (some ⟨b, off, none⟩) n l →
      Calls Try.prog 38 #[.slice (some ⟨b, off, none⟩) n c, .int .i64 x, .int .i64 8] w' fun e w'' => e = .returned (.int .u64 (F x)) ∧ w'' = w' :=
    ⟨fun x => num ((l.drop x.toNat).take 8), rfl, rfl, rfl, fun x hx w' hw => by
      rcases hx with rfl | rfl | rfl
      · exact Calls.flip (block_get (some ⟨b, off, none⟩) n c l 8 8 w' hw hn (by omega) (by omega))
      · exact Calls.flip (block_get (some ⟨b, off, none⟩) n c l 16 8 w' hw hn (by omega) (by omega))
      · exact Calls.flip (block_get (some ⟨b, off, none⟩) n c l 24 8 w' hw hn (by omega) (by omega))⟩
  have HGF := Lib.hid hF
  rw [f8, f16, f24] at hpar
  rw [f8] at n8
  rw [f16] at n16
  rw [f24] at n24
  clear f8 f16 f24 hF
  have hsp := span_pos (c := ((l.getD 1 0).toNat : Int)) (by omega) (by omega)
  have hcv := capN_val ((l.getD 1 0).toNat : Int)
  have HSP := Lib.hid (fun w => class_Span ((l.getD 1 0).toNat : Int) w (by omega))
  have HDA := Lib.hid (fun w' (hw : Bs w' (some ⟨b, off, none⟩) n l) (hns : n = 64 * span ((l.getD 1 0).toNat : Int)) => block_data (some ⟨b, off, none⟩) n c _ l w' hw hsp hns hc)
  have hdl : (dataOf (span ((l.getD 1 0).toNat : Int)) l).length = 28 + 63 * (span ((l.getD 1 0).toNat : Int) - 1) := by
    unfold dataOf
    simp
  generalize dataOf (span ((l.getD 1 0).toNat : Int)) l = d at *
  generalize num ((l.drop 4).take 2) = v at *
  generalize (l.getD 1 0).toNat = p at *
  generalize (l.getD 2 0).toNat = q at *
  generalize (l.getD 3 0).toNat = k at *
  have HHH := Lib.hid hh
  have HPAR := Lib.hid hpar
  have HRD := Lib.hid hrd
  clear hh hcell hbx g3 nb hpar hrd
  have hps : span (p : Int) ≤ 8 := hsp.2
  have hp1 : 1 ≤ span (p : Int) := hsp.1
  have x3' : (w.alloc (.cells #[.int .i64 0, .int .i64 0, .int .u64 0, .int .u64 0, .int .u64 0, .string ⟨#[]⟩, .string ⟨#[]⟩] 24)).cell? ⟨b, off + 3, none⟩ = some (.int .u8 k) := x3
  clear x3 hsp
  by_cases hns : n = 64 * span (p : Int)
  case neg =>
    rw [backV_no fun x => hns (by have := (HRD.out.1 x).2.1; omega)]
    have qn : ¬ (n : Int) = (span (p : Int) : Int) * 64 := by omega
    generalize span (p : Int) = s at *
    clear hcv hdl hl x3' hns HPAR HRD HG4 HGF HDA
    go_enter Try.func20, Try.ntmps20
    go_wp2_with fail
    refine HH.out.mono ?_
    rintro e w1 ⟨rfl, o1⟩
    have HR1 := Lib.hid (HR.out.only o1 (by simp))
    have O1' := Lib.hid (O1.out.trans0 o1)
    clear o1
    go_wp2_with fail
    refine (HSP.out _).mono ?_
    rintro e w' ⟨rfl, rfl⟩
    go_wp2_with ((with_reducible show wpList _ _ _ (Oper.mk none _ _ _ _ _ :: _) _ _); refine wpList_store_all rfl 24 (.tmp 2) (.tmp 34) rfl w.heap.size #[.int .i64 0, .int .i64 0, .int .u64 0, .int .u64 0, .int .u64 0, .string ⟨#[]⟩, .string ⟨#[]⟩] rfl rfl _ _ HR1.out rfl blockInfo (blockV_one 0 0 0 0 0 ⟨#[]⟩ ⟨#[]⟩) ?_; intro w2 hb2 ho2; have B2 := Lib.hid hb2; have O2 := Lib.hid (O1'.out.trans ho2 (by simp)); clear hb2 ho2)
    refine bodyPost_ret (dec_end B2.out rfl rfl rfl) rfl ⟨rfl, O2.out⟩
  have hDA := Lib.hid (fun w' hw => HDA.out w' hw hns)
  have qn : ((n : Int) != (span (p : Int) : Int) * 64) = false := by rw [bne_eq_false_iff_eq]; omega
  have HNS := Lib.hid hns
  clear HDA
  have hR : reads l ↔ k + v ≤ d.length ∧ may (parse l) = true ∧ lines (parse l) = l := by
    rw [HRD.out]
    constructor
    · rintro ⟨_, _, h3, h4, h5⟩
      exact ⟨by omega, h4, h5⟩
    · rintro ⟨h3, h4, h5⟩
      exact ⟨hl64, by omega, by omega, h4, h5⟩
  have HRR := Lib.hid hR
  generalize span (p : Int) = s at *
  have hdN : d.length ≤ 500 := by omega
  have HDL := Lib.hid hdl
  clear hcv hR HRD hdl hns hl
  have qp : (p : Int) ≤ 3 := by omega
  obtain ⟨D, hDe, hD0, hD1⟩ : ∃ D : ByteArray, (⟨d.toArray⟩ : ByteArray) = D ∧ D.data.toList = d ∧ D.size = d.length := ⟨⟨d.toArray⟩, rfl, rfl, by show d.toArray.size = _; simp⟩
  rw [hDe] at hDA
  have HD0 := Lib.hid hD0
  have HD1 := Lib.hid hD1
  clear hDe hD0 hD1
  go_enter Try.func20, Try.ntmps20
  go_wp2_with fail
  refine HH.out.mono ?_
  rintro e w1 ⟨rfl, o1⟩
  have HR1 := Lib.hid (HR.out.only o1 (by simp))
  have O1' := Lib.hid (O1.out.trans0 o1)
  have HB1 := Lib.hid (HB.out.only0 o1)
  have x3 : w1.cell? ⟨b, off + 3, none⟩ = some (.int .u8 k) := (cell_only o1 hbw (by simp)).trans x3'
  clear o1 x3'
  go_wp2_with fail
  refine (HSP.out _).mono ?_
  rintro e w' ⟨rfl, rfl⟩
  go_wp2
  go_quiet ((go_at_call 38; exact Calls.quiet_of_same (HG4.out _ (HB1.out.only0 (by first | exact Only.refl _ _ | exact (Only.refl _ _).drewN _)))))
  go_wp2_with fail
  refine (hDA.out _ (HB1.out.only0 ((Only.refl _ _).drewN _))).mono ?_
  rintro e w2 ⟨rfl, o2⟩
  have o2' := ((Only.refl [] w1).drewN _).trans0 o2
  have HR2 := Lib.hid (HR1.out.only o2' (by simp))
  have O2 := Lib.hid (O1'.out.trans0 o2')
  have HB2 := Lib.hid (HB1.out.only0 o2')
  clear o2 o2' x3
  have hDs : D.size ≤ 500 := by have := HD1.out; omega
  by_cases hkv : k + v ≤ D.size
  case neg =>
    have HNO := Lib.hid (backV_no (l := l) fun x => hkv (by have := (HRR.out.1 x).1; have := HD1.out; omega))
    have q8 : decide ((D.size : Int) < (k : Int) + (v : Int)) = true := by rw [decide_eq_true_eq]; omega
    go_wp2_with ((with_reducible show wpList _ _ _ (Oper.mk none _ _ _ _ _ :: _) _ _); refine wpList_store_all rfl 24 (.tmp 2) (.tmp 50) rfl w.heap.size #[.int .i64 0, .int .i64 0, .int .u64 0, .int .u64 0, .int .u64 0, .string ⟨#[]⟩, .string ⟨#[]⟩] rfl rfl _ _ HR2.out rfl blockInfo (blockV_one 0 0 0 0 0 ⟨#[]⟩ ⟨#[]⟩) ?_; intro w3 hb3 ho3; have B3 := Lib.hid hb3; have O3 := Lib.hid (O2.out.trans ho3 (by simp)); clear hb3 ho3)
    refine bodyPost_ret (v := noneV) (dec_end B3.out rfl rfl rfl) rfl ⟨by rw [HNO.out], O3.out⟩
  have q8 : decide ((D.size : Int) < (k : Int) + (v : Int)) = false := by rw [decide_eq_false_iff_not]; omega
  have y0 : (0 : Int) ≤ (k : Int) := by omega
  have y1 : (k : Int) ≤ (D.size : Int) := by omega
  have y2 : (k : Int) + (v : Int) ≤ (D.size : Int) := by omega
  have y3 : (k : Int) ≤ (k : Int) + (v : Int) := by omega
  have y4 : 0 ≤ (k : Int) + (v : Int) := by omega
  have y5 : IntKind.i64.wrap ((k : Int) + (v : Int)) = (k : Int) + (v : Int) := by rw [IntKind.wrap_i64]; omega
  go_wp2
  have HBd := Lib.hid (HB2.out.only0 (Only.refl [] w2).drew)
  have x0 : w2.cell? ⟨w.heap.size, 0, none⟩ = some (.int .i64 0) := HR2.out.cell 0
  have HKS := Lib.hid (show (D.extract 0 k).data.toList = d.take k by rw [← HD0.out]; simp)
  have HVS := Lib.hid (show (D.extract k ((k : Int) + (v : Int)).toNat).data.toList = (d.drop k).take v by
    rw [← HD0.out, show ((k : Int) + (v : Int)).toNat = k + v by omega]
    simp [List.extract_eq_take_drop])
  have HPB := Lib.hid (show mkB p q (F 8) (F 16) (F 24) (D.extract 0 k) (D.extract k ((k : Int) + (v : Int)).toNat) = parse l by
    rw [HPAR.out]
    unfold mkB
    rw [HKS.out, HVS.out])
  have hsz1 : (D.extract 0 k).size ≤ 1000000 := by rw [ByteArray.size_extract]; omega
  have hsz2 : (D.extract k ((k : Int) + (v : Int)).toNat).size ≤ 1000000 := by rw [ByteArray.size_extract]; omega
  have HEN := Lib.hid (fun w => block_Encode (p : Int) (q : Int) (F 8) (F 16) (F 24) (D.extract 0 k) (D.extract k ((k : Int) + (v : Int)).toNat) w (by omega) n8 n16 n24 hsz1 hsz2)
  rw [HPB.out] at HEN
  have BN := Lib.hid (Blk.new w2 24 #[.int .i64 (p : Int), .int .i64 (q : Int), .int .u64 (F 8 : Int), .int .u64 (F 16 : Int), .int .u64 (F 24 : Int), .string (D.extract 0 k), .string (D.extract k ((k : Int) + (v : Int)).toNat)])
  have ON := Lib.hid (show Only [] w2 (w2.alloc (.cells #[.int .i64 (p : Int), .int .i64 (q : Int), .int .u64 (F 8 : Int), .int .u64 (F 16 : Int), .int .u64 (F 24 : Int), .string (D.extract 0 k), .string (D.extract k ((k : Int) + (v : Int)).toNat)] 24)).drew from ((Only.refl _ _).alloc _).drew)
  have BN2 := Lib.hid (show Blk (w2.alloc (.cells #[.int .i64 (p : Int), .int .i64 (q : Int), .int .u64 (F 8 : Int), .int .u64 (F 16 : Int), .int .u64 (F 24 : Int), .string (D.extract 0 k), .string (D.extract k ((k : Int) + (v : Int)).toNat)] 24)).drew w2.heap.size 24 _ from BN.out.only (Only.refl [] _).drew (by simp))
  have hDl : D.data.toList.length ≤ 500 := by rw [HD0.out]; omega
  clear hsz1 hsz2 hDl
  have hx0 := World.new_ne w2 _ x0
  go_region_held3 (fun w' => w'.cell? ⟨w.heap.size, 0, none⟩ = some (.int .i64 0)) (go_keep) (first | (go_at_call 38; refine (HGF.out _ (by first | exact .inl rfl | exact .inr (.inl rfl) | exact .inr (.inr rfl)) _ (by first | exact HBd.out | exact HBd.out.only0 ((Only.refl _ _).alloc _))).mono ?_; rintro e w' ⟨rfl, rfl⟩))
  all_goals
    generalize D.extract 0 k = ks at HKS HPB HEN BN BN2 ON ⊢
    generalize D.extract k ((k : Int) + (v : Int)).toNat = vs at HVS HPB HEN BN BN2 ON ⊢
    generalize F 8 = id at HPB HEN BN BN2 ON ⊢
    generalize F 16 = ver at HPB HEN BN BN2 ON ⊢
    generalize F 24 = ep at HPB HEN BN BN2 ON ⊢
    clear BN
    generalize (w2.alloc (.cells #[.int .i64 (p : Int), .int .i64 (q : Int), .int .u64 (id : Int), .int .u64 (ver : Int), .int .u64 (ep : Int), .string ks, .string vs] 24)).drew = w3 at BN2 ON ⊢
    have O3 := Lib.hid (O2.out.trans0 ON.out)
    have hg2 := HR2.out.lt
    generalize w2.heap.size = g at BN2 hg2 ⊢
    have z0 : w3.cell? ⟨g, 0, none⟩ = some (.int .i64 (p : Int)) := BN2.out.cell 0
    have z1 : w3.cell? ⟨g, 1, none⟩ = some (.int .i64 (q : Int)) := BN2.out.cell 1
    have z2 : w3.cell? ⟨g, 2, none⟩ = some (.int .u64 (id : Int)) := BN2.out.cell 2
    have z3 : w3.cell? ⟨g, 3, none⟩ = some (.int .u64 (ver : Int)) := BN2.out.cell 3
    have z4 : w3.cell? ⟨g, 4, none⟩ = some (.int .u64 (ep : Int)) := BN2.out.cell 4
    have z5 : w3.cell? ⟨g, 5, none⟩ = some (.string ks) := BN2.out.cell 5
    have z6 : w3.cell? ⟨g, 6, none⟩ = some (.string vs) := BN2.out.cell 6
    go_wp2_with fail
    refine (HEN.out _).mono ?_
    rintro e w4 ⟨v4, rfl, A4, c4, rfl, ho4, o4⟩
    clear z0 z1 z2 z3 z4 z5 z6
    have HR4 := Lib.hid ((HR2.out.only ON.out (by simp)).only o4 (by simp))
    have HB4 := Lib.hid ((HB2.out.only0 ON.out).only0 o4)
    have BN4 := Lib.hid (BN2.out.only o4 (by simp))
    have O4 := Lib.hid (O3.out.trans0 o4)
    have hown := Sl.of_own ho4
    clear o4 ho4
    by_cases hm : may (parse l) = true
    case neg =>
      have henc : enc (parse l) = ([], 3) := if_neg hm
      have HNO := Lib.hid (backV_no (l := l) fun x => hm (HRR.out.1 x).2.1)
      rw [henc] at hown ⊢
      clear henc hm hown
      go_wp2_with ((with_reducible show wpList _ _ _ (Oper.mk none _ _ _ _ _ :: _) _ _); refine wpList_store_all rfl 24 (.tmp 2) (.tmp 83) rfl w.heap.size #[.int .i64 0, .int .i64 0, .int .u64 0, .int .u64 0, .int .u64 0, .string ⟨#[]⟩, .string ⟨#[]⟩] rfl rfl _ _ HR4.out rfl blockInfo (blockV_one 0 0 0 0 0 ⟨#[]⟩ ⟨#[]⟩) ?_; intro w5 hb5 ho5; have B5 := Lib.hid hb5; have O5 := Lib.hid (O4.out.trans ho5 (by simp)); clear hb5 ho5)
      refine bodyPost_ret (v := noneV) (dec_end B5.out rfl rfl rfl) rfl ⟨by rw [HNO.out], O5.out⟩
    have henc : enc (parse l) = (lines (parse l), 0) := if_pos hm
    rw [henc] at hown ⊢
    clear henc
    have hb4 : Bs w4 A4 (lines (parse l)).length (lines (parse l)) := hown
    have hst1 := run_str (P := Try.prog) Try.underlying27 Try.underlying5 Try.underlying9 hb4 c4
    have hst2 := run_str (P := Try.prog) Try.underlying27 Try.underlying5 Try.underlying9 HB4.out c
    have hll0 : (lines (parse l), 0).1.length = (lines (parse l)).length := rfl
    clear hown hb4 hll0
    by_cases hll : lines (parse l) = l
    case neg =>
      have HNO := Lib.hid (backV_no (l := l) fun x => hll (HRR.out.1 x).2.2)
      have e1 : ((⟨(lines (parse l)).toArray⟩ : ByteArray).toList == (⟨l.toArray⟩ : ByteArray).toList) = false := by rw [toList_beq]; simpa using hll
      have e2 : ((⟨(lines (parse l)).toArray⟩ : ByteArray).toList != (⟨l.toArray⟩ : ByteArray).toList) = true := by rw [bne, e1]; rfl
      generalize (⟨(lines (parse l)).toArray⟩ : ByteArray) = X at hst1 e1 e2
      generalize (⟨l.toArray⟩ : ByteArray) = Y at hst2 e1 e2
      generalize (lines (parse l)).length = N at hst1 ⊢
      clear hll
      go_wp2_with ((with_reducible show wpList _ _ _ (Oper.mk none _ _ _ _ _ :: _) _ _); refine wpList_store_all rfl 24 (.tmp 2) (.tmp 83) rfl w.heap.size #[.int .i64 0, .int .i64 0, .int .u64 0, .int .u64 0, .int .u64 0, .string ⟨#[]⟩, .string ⟨#[]⟩] rfl rfl _ _ HR4.out rfl blockInfo (blockV_one 0 0 0 0 0 ⟨#[]⟩ ⟨#[]⟩) ?_; intro w5 hb5 ho5; have B5 := Lib.hid hb5; have O5 := Lib.hid (O4.out.trans ho5 (by simp)); clear hb5 ho5)
      refine bodyPost_ret (v := noneV) (dec_end B5.out rfl rfl rfl) rfl ⟨by rw [HNO.out], O5.out⟩
    have HYES := Lib.hid (show backV l = .tuple #[blockV p q id ver ep ks vs, .bool true] by
      rw [backV_yes (HRR.out.2 ⟨by have := HD1.out; omega, hm, hll⟩), ← HPB.out]
      rfl)
    rw [hll] at hst1
    have e1 : ((⟨l.toArray⟩ : ByteArray).toList == (⟨l.toArray⟩ : ByteArray).toList) = true := by simp
    have e2 : ((⟨l.toArray⟩ : ByteArray).toList != (⟨l.toArray⟩ : ByteArray).toList) = false := by simp
    generalize (⟨l.toArray⟩ : ByteArray) = Y at hst1 hst2 e1 e2
    have HLL := Lib.hid hll
    clear hll hm
    rw [HLL.out]
    have z0 : w4.cell? ⟨g, 0, none⟩ = some (.int .i64 (p : Int)) := BN4.out.cell 0
    have z1 : w4.cell? ⟨g, 1, none⟩ = some (.int .i64 (q : Int)) := BN4.out.cell 1
    have z2 : w4.cell? ⟨g, 2, none⟩ = some (.int .u64 (id : Int)) := BN4.out.cell 2
    have z3 : w4.cell? ⟨g, 3, none⟩ = some (.int .u64 (ver : Int)) := BN4.out.cell 3
    have z4 : w4.cell? ⟨g, 4, none⟩ = some (.int .u64 (ep : Int)) := BN4.out.cell 4
    have z5 : w4.cell? ⟨g, 5, none⟩ = some (.string ks) := BN4.out.cell 5
    have z6 : w4.cell? ⟨g, 6, none⟩ = some (.string vs) := BN4.out.cell 6
    go_wp2_with ((with_reducible show wpList _ _ _ (Oper.mk none _ _ _ _ _ :: _) _ _); refine wpList_store_all rfl 24 (.tmp 2) (.tmp 84) rfl w.heap.size #[.int .i64 (p : Int), .int .i64 (q : Int), .int .u64 (id : Int), .int .u64 (ver : Int), .int .u64 (ep : Int), .string ks, .string vs] rfl rfl _ _ HR4.out rfl blockInfo (blockV_one p q id ver ep ks vs) ?_; intro w5 hb5 ho5; have B5 := Lib.hid hb5; have O5 := Lib.hid (O4.out.trans ho5 (by simp)); clear hb5 ho5)
    refine bodyPost_ret (v := .tuple #[blockV p q id ver ep ks vs, .bool true]) (dec_end B5.out rfl rfl rfl) rfl ⟨by rw [HYES.out], O5.out⟩
end Go.Proofs.Ytkhfcghnodggeaa
