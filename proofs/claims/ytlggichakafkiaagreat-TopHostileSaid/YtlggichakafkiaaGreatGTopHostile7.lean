/- The contract of block.Decode. -/
import Derived.Deep.RegionHeld3
import Derived.BigQuiet
import Derived.StillTail
import Derived.Deep.Quiet
import Derived.Test.YtlggichakafkiaaGreatGTopHostile1
import Derived.Test.YtlggichakafkiaaGreatGTopHostile2
import Derived.Test.YtlggichakafkiaaGreatGTopHostile3
import Derived.Test.YtlggichakafkiaaGreatGTopHostile4
import Derived.Test.YtlggichakafkiaaGreatGTopHostile5
import Derived.Test.YtlggichakafkiaaGreatGTopHostile6
set_option linter.unusedSimpArgs false
set_option linter.unusedVariables false
namespace Go.Proofs.YtlggichakafkiaaGreat
open Go.RowKit Go.Proofs.FuMem Go.Proofs.FuCode Go.Proofs.FuClass Go.Proofs.FuBlock Go.Proofs.FuEq Go.Proofs.FuCrc
set_option maxRecDepth 100000
set_option maxHeartbeats 3000000 in
theorem block_Decode (A : Option Addr) (n c : Nat) (l : List UInt8) (w : World) (h : Bs w A n l) (hn : n ≤ 1000000) (hc : n ≤ c) :
  Calls Tryz.prog 153 #[.slice A n c] w fun e w' => e = .returned (backV l) ∧ Only [] w w' := by
 have hl := h.len
 have o1 : Only [] w (w.alloc (.cells #[.int .i64 0, .int .i64 0, .int .u64 0, .int .u64 0, .int .u64 0, .string ⟨#[]⟩, .string ⟨#[]⟩] 282)) := (Only.refl _ _).alloc _
 have HR := hq9 (Blk.new w 282 #[.int .i64 0, .int .i64 0, .int .u64 0, .int .u64 0, .int .u64 0, .string ⟨#[]⟩, .string ⟨#[]⟩])
 have HB := hq9 (h.only0 o1)
 have O1 := hq9 o1
 clear o1 h
 by_cases hn64 : 64 ≤ n
 case neg =>
  have hx : backV l = noneV := backV_no fun x => hn64 (by have := x.1; omega)
  rw [hx]
  clear hx hl
  have q0 : decide ((n : Int) < 64) = true := by rw [decide_eq_true_eq]; omega
  go_enter Tryz.func153, Tryz.ntmps153
  go_wp2_with ((with_reducible show wpList _ _ _ (Oper.mk none _ _ _ _ _ :: _) _ _); refine wpList_store_all rfl 282 (.tmp 2) (.tmp 16) rfl w.heap.size #[.int .i64 0, .int .i64 0, .int .u64 0, .int .u64 0, .int .u64 0, .string ⟨#[]⟩, .string ⟨#[]⟩] rfl rfl _ _ HR.out rfl blockInfo (blockV_one 0 0 0 0 0 ⟨#[]⟩ ⟨#[]⟩) ?_; intro w2 hb2 ho2; have B2 := hq9 hb2; have O2 := hq9 (O1.out.trans ho2 (by simp)); clear hb2 ho2)
  refine bodyPost_ret (dec_end B2.out rfl rfl rfl) rfl ⟨rfl, O2.out⟩
 have hl64 : 64 ≤ l.length := by omega
 have hb0 := HB.out
 obtain ⟨b, off, rfl, hcell⟩ := hb0.at_ (by omega)
 have hcut := HB.out.cut (a := 0) (m := 64) (by omega)
 rw [Nat.add_zero, List.drop_zero] at hcut
 have HH := hq9 (block_Head (some ⟨b, off, none⟩) 64 c (l.take 64) _ hcut (by omega))
 have q0 : decide ((n : Int) < 64) = false := by rw [decide_eq_false_iff_not]; omega
 have hbw := HB.out.lt (by omega) rfl
 clear hcut hb0 hcell
 by_cases hh : isHead (l.take 64)
 case neg =>
  rw [backV_no fun x => hh (reads_head x)]
  rw [headOf_no hh] at HH
  clear hh hl
  go_enter Tryz.func153, Tryz.ntmps153
  go_wp2_with fail
  refine HH.out.mono ?_
  rintro e w1 ⟨rfl, o1⟩
  have HR1 := hq9 (HR.out.only o1 (by simp))
  have O1' := hq9 (O1.out.trans0 o1)
  clear o1
  go_wp2_with ((with_reducible show wpList _ _ _ (Oper.mk none _ _ _ _ _ :: _) _ _); refine wpList_store_all rfl 282 (.tmp 2) (.tmp 34) rfl w.heap.size #[.int .i64 0, .int .i64 0, .int .u64 0, .int .u64 0, .int .u64 0, .string ⟨#[]⟩, .string ⟨#[]⟩] rfl rfl _ _ HR1.out rfl blockInfo (blockV_one 0 0 0 0 0 ⟨#[]⟩ ⟨#[]⟩) ?_; intro w2 hb2 ho2; have B2 := hq9 hb2; have O2 := hq9 (O1'.out.trans ho2 (by simp)); clear hb2 ho2)
  refine bodyPost_ret (dec_end B2.out rfl rfl rfl) rfl ⟨rfl, O2.out⟩
 rw [headOf_yes hh] at HH
 have hp3 : (l.getD 1 0).toNat ≤ 3 := ((headOf_take hl64).1 hh).2.1
 have hq3 : (l.getD 2 0).toNat ≤ 3 := ((headOf_take hl64).1 hh).2.2
 have hk3 := (l.getD 3 0).toNat_lt
 have hbx := HB.out
 obtain ⟨b', off', hbb, hcell⟩ := hbx.at_ (by omega)
 cases hbb
 have x3 := hcell 3 (by omega)
 have g3 : l.getD 3 0 = l[3] := getD_eq (by omega)
 rw [← g3] at x3
 have hpar : parse l = ⟨(l.getD 1 0).toNat, (l.getD 2 0).toNat, num ((l.drop 8).take 8), num ((l.drop 16).take 8), num ((l.drop 24).take 8), (dataOf (span (l.getD 1 0).toNat) l).take (l.getD 3 0).toNat, ((dataOf (span (l.getD 1 0).toNat) l).drop (l.getD 3 0).toNat).take (num ((l.drop 4).take 2))⟩ := rfl
 have hrd : reads l ↔ 64 ≤ l.length ∧ l.length = 64 * span (l.getD 1 0).toNat ∧ (l.getD 3 0).toNat + num ((l.drop 4).take 2) ≤ capN (l.getD 1 0).toNat ∧ may (parse l) = true ∧ lines (parse l) = l := Iff.rfl
 have n4 : num ((l.drop 4).take 2) < 65536 := by
  have := num_lt ((l.drop 4).take 2)
  rw [List.length_take, Nat.min_eq_left (by rw [List.length_drop]; omega)] at this
  exact this
 have nb : ∀ a, a + 8 ≤ l.length → num ((l.drop a).take 8) < 18446744073709551616 := fun a ha => by
  have := num_lt ((l.drop a).take 8)
  rw [List.length_take, Nat.min_eq_left (by rw [List.length_drop]; omega)] at this
  exact this
 have n8 := nb 8 (by omega)
 have n16 := nb 16 (by omega)
 have n24 := nb 24 (by omega)
 have HG4 := hq9 (fun w' (hw : Bs w' (some ⟨b, off, none⟩) n l) => Calls.flip (block_get (some ⟨b, off, none⟩) n c l 4 2 w' hw hn (by omega) (by omega)))
 obtain ⟨F, f8, f16, f24, hF⟩ : ∃ F : Int → Nat, num ((l.drop 8).take 8) = F 8 ∧ num ((l.drop 16).take 8) = F 16 ∧ num ((l.drop 24).take 8) = F 24 ∧ ∀ (x : Int), (x = 8 ∨ x = 16 ∨ x = 24) → ∀ w', Bs w' (some ⟨b, off, none⟩) n l →
   Calls Tryz.prog 191 #[.slice (some ⟨b, off, none⟩) n c, .int .i64 x, .int .i64 8] w' fun e w'' => e = .returned (.int .u64 (F x)) ∧ w'' = w' :=
  ⟨fun x => num ((l.drop x.toNat).take 8), rfl, rfl, rfl, fun x hx w' hw => by
   rcases hx with rfl | rfl | rfl
   ·exact Calls.flip (block_get (some ⟨b, off, none⟩) n c l 8 8 w' hw hn (by omega) (by omega))
   ·exact Calls.flip (block_get (some ⟨b, off, none⟩) n c l 16 8 w' hw hn (by omega) (by omega))
   ·exact Calls.flip (block_get (some ⟨b, off, none⟩) n c l 24 8 w' hw hn (by omega) (by omega))⟩
 have HGF := hq9 hF
 rw [f8, f16, f24] at hpar
 rw [f8] at n8
 rw [f16] at n16
 rw [f24] at n24
 clear f8 f16 f24 hF
 have hsp := span_pos (c := ((l.getD 1 0).toNat : Int)) (by omega) (by omega)
 have hcv := capN_val ((l.getD 1 0).toNat : Int)
 have HSP := hq9 (fun w => class_Span ((l.getD 1 0).toNat : Int) w (by omega))
 have HDA := hq9 (fun w' (hw : Bs w' (some ⟨b, off, none⟩) n l) (hns : n = 64 * span ((l.getD 1 0).toNat : Int)) => block_data (some ⟨b, off, none⟩) n c _ l w' hw hsp hns hc)
 have hdl : (dataOf (span ((l.getD 1 0).toNat : Int)) l).length = 28 + 63 * (span ((l.getD 1 0).toNat : Int) - 1) := by
  unfold dataOf
  simp
 generalize dataOf (span ((l.getD 1 0).toNat : Int)) l = d at *
 generalize num ((l.drop 4).take 2) = v at *
 generalize (l.getD 1 0).toNat = p at *
 generalize (l.getD 2 0).toNat = q at *
 generalize (l.getD 3 0).toNat = k at *
 have HHH := hq9 hh
 have HPAR := hq9 hpar
 have HRD := hq9 hrd
 clear hh hcell hbx g3 nb hpar hrd
 have hps : span (p : Int) ≤ 8 := hsp.2
 have hp1 : 1 ≤ span (p : Int) := hsp.1
 have x3' : (w.alloc (.cells #[.int .i64 0, .int .i64 0, .int .u64 0, .int .u64 0, .int .u64 0, .string ⟨#[]⟩, .string ⟨#[]⟩] 282)).cell? ⟨b, off + 3, none⟩ = some (.int .u8 k) := x3
 clear x3 hsp
 by_cases hns : n = 64 * span (p : Int)
 case neg =>
  rw [backV_no fun x => hns (by have := (HRD.out.1 x).2.1; omega)]
  have qn : ¬ (n : Int) = (span (p : Int) : Int) * 64 := by omega
  generalize span (p : Int) = s at *
  clear hcv hdl hl x3' hns HPAR HRD HG4 HGF HDA
  go_enter Tryz.func153, Tryz.ntmps153
  go_wp2_with fail
  refine HH.out.mono ?_
  rintro e w1 ⟨rfl, o1⟩
  have HR1 := hq9 (HR.out.only o1 (by simp))
  have O1' := hq9 (O1.out.trans0 o1)
  clear o1
  go_wp2_with fail
  refine (HSP.out _).mono ?_
  rintro e w' ⟨rfl, rfl⟩
  go_wp2_with ((with_reducible show wpList _ _ _ (Oper.mk none _ _ _ _ _ :: _) _ _); refine wpList_store_all rfl 282 (.tmp 2) (.tmp 34) rfl w.heap.size #[.int .i64 0, .int .i64 0, .int .u64 0, .int .u64 0, .int .u64 0, .string ⟨#[]⟩, .string ⟨#[]⟩] rfl rfl _ _ HR1.out rfl blockInfo (blockV_one 0 0 0 0 0 ⟨#[]⟩ ⟨#[]⟩) ?_; intro w2 hb2 ho2; have B2 := hq9 hb2; have O2 := hq9 (O1'.out.trans ho2 (by simp)); clear hb2 ho2)
  refine bodyPost_ret (dec_end B2.out rfl rfl rfl) rfl ⟨rfl, O2.out⟩
 have hDA := hq9 (fun w' hw => HDA.out w' hw hns)
 have qn : ((n : Int) != (span (p : Int) : Int) * 64) = false := by rw [bne_eq_false_iff_eq]; omega
 have HNS := hq9 hns
 clear HDA
 have hR : reads l ↔ k + v ≤ d.length ∧ may (parse l) = true ∧ lines (parse l) = l := by
  rw [HRD.out]
  constructor
  ·rintro ⟨_, _, h3, h4, h5⟩
   exact ⟨by omega, h4, h5⟩
  ·rintro ⟨h3, h4, h5⟩
   exact ⟨hl64, by omega, by omega, h4, h5⟩
 have HRR := hq9 hR
 generalize span (p : Int) = s at *
 have hdN : d.length ≤ 500 := by omega
 have HDL := hq9 hdl
 clear hcv hR HRD hdl hns hl
 have qp : (p : Int) ≤ 3 := by omega
 obtain ⟨D, hDe, hD0, hD1⟩ : ∃ D : ByteArray, (⟨d.toArray⟩ : ByteArray) = D ∧ D.data.toList = d ∧ D.size = d.length := ⟨⟨d.toArray⟩, rfl, rfl, by show d.toArray.size = _; simp⟩
 rw [hDe] at hDA
 have HD0 := hq9 hD0
 have HD1 := hq9 hD1
 clear hDe hD0 hD1
 go_enter Tryz.func153, Tryz.ntmps153
 go_wp2_with fail
 refine HH.out.mono ?_
 rintro e w1 ⟨rfl, o1⟩
 have HR1 := hq9 (HR.out.only o1 (by simp))
 have O1' := hq9 (O1.out.trans0 o1)
 have HB1 := hq9 (HB.out.only0 o1)
 have x3 : w1.cell? ⟨b, off + 3, none⟩ = some (.int .u8 k) := (cell_only o1 hbw (by simp)).trans x3'
 clear o1 x3'
 go_wp2_with fail
 refine (HSP.out _).mono ?_
 rintro e w' ⟨rfl, rfl⟩
 go_wp2
 go_quiet ((go_at_call 191; exact Calls.quiet_of_same (HG4.out _ (HB1.out.only0 (by first | exact Only.refl _ _ | exact (Only.refl _ _).drewN _)))))
 go_wp2_with fail
 refine (hDA.out _ (HB1.out.only0 ((Only.refl _ _).drewN _))).mono ?_
 rintro e w2 ⟨rfl, o2⟩
 have o2' := ((Only.refl [] w1).drewN _).trans0 o2
 have HR2 := hq9 (HR1.out.only o2' (by simp))
 have O2 := hq9 (O1'.out.trans0 o2')
 have HB2 := hq9 (HB1.out.only0 o2')
 clear o2 o2' x3
 have hDs : D.size ≤ 500 := by have := HD1.out; omega
 by_cases hkv : k + v ≤ D.size
 case neg =>
  have HNO := hq9 (backV_no (l := l) fun x => hkv (by have := (HRR.out.1 x).1; have := HD1.out; omega))
  have q8 : decide ((D.size : Int) < (k : Int) + (v : Int)) = true := by rw [decide_eq_true_eq]; omega
  go_wp2_with ((with_reducible show wpList _ _ _ (Oper.mk none _ _ _ _ _ :: _) _ _); refine wpList_store_all rfl 282 (.tmp 2) (.tmp 50) rfl w.heap.size #[.int .i64 0, .int .i64 0, .int .u64 0, .int .u64 0, .int .u64 0, .string ⟨#[]⟩, .string ⟨#[]⟩] rfl rfl _ _ HR2.out rfl blockInfo (blockV_one 0 0 0 0 0 ⟨#[]⟩ ⟨#[]⟩) ?_; intro w3 hb3 ho3; have B3 := hq9 hb3; have O3 := hq9 (O2.out.trans ho3 (by simp)); clear hb3 ho3)
  refine bodyPost_ret (v := noneV) (dec_end B3.out rfl rfl rfl) rfl ⟨by rw [HNO.out], O3.out⟩
 have q8 : decide ((D.size : Int) < (k : Int) + (v : Int)) = false := by rw [decide_eq_false_iff_not]; omega
 have y0 : (0 : Int) ≤ (k : Int) := by omega
 have y1 : (k : Int) ≤ (D.size : Int) := by omega
 have y2 : (k : Int) + (v : Int) ≤ (D.size : Int) := by omega
 have y3 : (k : Int) ≤ (k : Int) + (v : Int) := by omega
 have y4 : 0 ≤ (k : Int) + (v : Int) := by omega
 have y5 : IntKind.i64.wrap ((k : Int) + (v : Int)) = (k : Int) + (v : Int) := by rw [IntKind.wrap_i64]; omega
 go_wp2
 have HBd := hq9 (HB2.out.only0 (Only.refl [] w2).drew)
 have x0 : w2.cell? ⟨w.heap.size, 0, none⟩ = some (.int .i64 0) := HR2.out.cell 0
 have HKS := hq9 (show (D.extract 0 k).data.toList = d.take k by rw [← HD0.out]; simp)
 have HVS := hq9 (show (D.extract k ((k : Int) + (v : Int)).toNat).data.toList = (d.drop k).take v by
  rw [← HD0.out, show ((k : Int) + (v : Int)).toNat = k + v by omega]
  simp [List.extract_eq_take_drop])
 have HPB := hq9 (show mkB p q (F 8) (F 16) (F 24) (D.extract 0 k) (D.extract k ((k : Int) + (v : Int)).toNat) = parse l by
  rw [HPAR.out]
  unfold mkB
  rw [HKS.out, HVS.out])
 have hsz1 : (D.extract 0 k).size ≤ 1000000 := by rw [ByteArray.size_extract]; omega
 have hsz2 : (D.extract k ((k : Int) + (v : Int)).toNat).size ≤ 1000000 := by rw [ByteArray.size_extract]; omega
 have HEN := hq9 (fun w => block_Encode (p : Int) (q : Int) (F 8) (F 16) (F 24) (D.extract 0 k) (D.extract k ((k : Int) + (v : Int)).toNat) w (by omega) n8 n16 n24 hsz1 hsz2)
 rw [HPB.out] at HEN
 have BN := hq9 (Blk.new w2 282 #[.int .i64 (p : Int), .int .i64 (q : Int), .int .u64 (F 8 : Int), .int .u64 (F 16 : Int), .int .u64 (F 24 : Int), .string (D.extract 0 k), .string (D.extract k ((k : Int) + (v : Int)).toNat)])
 have ON := hq9 (show Only [] w2 (w2.alloc (.cells #[.int .i64 (p : Int), .int .i64 (q : Int), .int .u64 (F 8 : Int), .int .u64 (F 16 : Int), .int .u64 (F 24 : Int), .string (D.extract 0 k), .string (D.extract k ((k : Int) + (v : Int)).toNat)] 282)).drew from ((Only.refl _ _).alloc _).drew)
 have BN2 := hq9 (show Blk (w2.alloc (.cells #[.int .i64 (p : Int), .int .i64 (q : Int), .int .u64 (F 8 : Int), .int .u64 (F 16 : Int), .int .u64 (F 24 : Int), .string (D.extract 0 k), .string (D.extract k ((k : Int) + (v : Int)).toNat)] 282)).drew w2.heap.size 282 _ from BN.out.only (Only.refl [] _).drew (by simp))
 have hDl : D.data.toList.length ≤ 500 := by rw [HD0.out]; omega
 clear hsz1 hsz2 hDl
 have hx0 := World.new_ne w2 _ x0
 go_region_held3 (fun w' => w'.cell? ⟨w.heap.size, 0, none⟩ = some (.int .i64 0)) (go_keep) (first | (go_at_call 191; refine (HGF.out _ (by first | exact .inl rfl | exact .inr (.inl rfl) | exact .inr (.inr rfl)) _ (by first | exact HBd.out | exact HBd.out.only0 ((Only.refl _ _).alloc _))).mono ?_; rintro e w' ⟨rfl, rfl⟩))
 all_goals
  generalize D.extract 0 k = ks at HKS HPB HEN BN BN2 ON ⊢
  generalize D.extract k ((k : Int) + (v : Int)).toNat = vs at HVS HPB HEN BN BN2 ON ⊢
  generalize F 8 = id at HPB HEN BN BN2 ON ⊢
  generalize F 16 = ver at HPB HEN BN BN2 ON ⊢
  generalize F 24 = ep at HPB HEN BN BN2 ON ⊢
  clear BN
  generalize (w2.alloc (.cells #[.int .i64 (p : Int), .int .i64 (q : Int), .int .u64 (id : Int), .int .u64 (ver : Int), .int .u64 (ep : Int), .string ks, .string vs] 282)).drew = w3 at BN2 ON ⊢
  have O3 := hq9 (O2.out.trans0 ON.out)
  have hg2 := HR2.out.lt
  generalize w2.heap.size = g at BN2 hg2 ⊢
  have z0 : w3.cell? ⟨g, 0, none⟩ = some (.int .i64 (p : Int)) := BN2.out.cell 0
  have z1 : w3.cell? ⟨g, 1, none⟩ = some (.int .i64 (q : Int)) := BN2.out.cell 1
  have z2 : w3.cell? ⟨g, 2, none⟩ = some (.int .u64 (id : Int)) := BN2.out.cell 2
  have z3 : w3.cell? ⟨g, 3, none⟩ = some (.int .u64 (ver : Int)) := BN2.out.cell 3
  have z4 : w3.cell? ⟨g, 4, none⟩ = some (.int .u64 (ep : Int)) := BN2.out.cell 4
  have z5 : w3.cell? ⟨g, 5, none⟩ = some (.string ks) := BN2.out.cell 5
  have z6 : w3.cell? ⟨g, 6, none⟩ = some (.string vs) := BN2.out.cell 6
  go_wp2_with fail
  refine (HEN.out _).mono ?_
  rintro e w4 ⟨v4, rfl, A4, c4, rfl, ho4, o4⟩
  clear z0 z1 z2 z3 z4 z5 z6
  have HR4 := hq9 ((HR2.out.only ON.out (by simp)).only o4 (by simp))
  have HB4 := hq9 ((HB2.out.only0 ON.out).only0 o4)
  have BN4 := hq9 (BN2.out.only o4 (by simp))
  have O4 := hq9 (O3.out.trans0 o4)
  have hown := Sl.of_own ho4
  clear o4 ho4
  by_cases hm : may (parse l) = true
  case neg =>
   have henc : enc (parse l) = ([], 3) := if_neg hm
   have HNO := hq9 (backV_no (l := l) fun x => hm (HRR.out.1 x).2.1)
   rw [henc] at hown ⊢
   clear henc hm hown
   go_wp2_with ((with_reducible show wpList _ _ _ (Oper.mk none _ _ _ _ _ :: _) _ _); refine wpList_store_all rfl 282 (.tmp 2) (.tmp 83) rfl w.heap.size #[.int .i64 0, .int .i64 0, .int .u64 0, .int .u64 0, .int .u64 0, .string ⟨#[]⟩, .string ⟨#[]⟩] rfl rfl _ _ HR4.out rfl blockInfo (blockV_one 0 0 0 0 0 ⟨#[]⟩ ⟨#[]⟩) ?_; intro w5 hb5 ho5; have B5 := hq9 hb5; have O5 := hq9 (O4.out.trans ho5 (by simp)); clear hb5 ho5)
   refine bodyPost_ret (v := noneV) (dec_end B5.out rfl rfl rfl) rfl ⟨by rw [HNO.out], O5.out⟩
  have henc : enc (parse l) = (lines (parse l), 0) := if_pos hm
  rw [henc] at hown ⊢
  clear henc
  have hb4 : Bs w4 A4 (lines (parse l)).length (lines (parse l)) := hown
  have hst1 := run_str (P := Tryz.prog) Tryz.underlying71 Tryz.underlying5 Tryz.underlying9 hb4 c4
  have hst2 := run_str (P := Tryz.prog) Tryz.underlying71 Tryz.underlying5 Tryz.underlying9 HB4.out c
  have hll0 : (lines (parse l), 0).1.length = (lines (parse l)).length := rfl
  clear hown hb4 hll0
  by_cases hll : lines (parse l) = l
  case neg =>
   have HNO := hq9 (backV_no (l := l) fun x => hll (HRR.out.1 x).2.2)
   have e1 : ((⟨(lines (parse l)).toArray⟩ : ByteArray).toList == (⟨l.toArray⟩ : ByteArray).toList) = false := by rw [toList_beq]; simpa using hll
   have e2 : ((⟨(lines (parse l)).toArray⟩ : ByteArray).toList != (⟨l.toArray⟩ : ByteArray).toList) = true := by rw [bne, e1]; rfl
   generalize (⟨(lines (parse l)).toArray⟩ : ByteArray) = X at hst1 e1 e2
   generalize (⟨l.toArray⟩ : ByteArray) = Y at hst2 e1 e2
   generalize (lines (parse l)).length = N at hst1 ⊢
   clear hll
   go_wp2_with ((with_reducible show wpList _ _ _ (Oper.mk none _ _ _ _ _ :: _) _ _); refine wpList_store_all rfl 282 (.tmp 2) (.tmp 83) rfl w.heap.size #[.int .i64 0, .int .i64 0, .int .u64 0, .int .u64 0, .int .u64 0, .string ⟨#[]⟩, .string ⟨#[]⟩] rfl rfl _ _ HR4.out rfl blockInfo (blockV_one 0 0 0 0 0 ⟨#[]⟩ ⟨#[]⟩) ?_; intro w5 hb5 ho5; have B5 := hq9 hb5; have O5 := hq9 (O4.out.trans ho5 (by simp)); clear hb5 ho5)
   refine bodyPost_ret (v := noneV) (dec_end B5.out rfl rfl rfl) rfl ⟨by rw [HNO.out], O5.out⟩
  have HYES := hq9 (show backV l = .tuple #[blockV p q id ver ep ks vs, .bool true] by
   rw [backV_yes (HRR.out.2 ⟨by have := HD1.out; omega, hm, hll⟩), ← HPB.out]
   rfl)
  rw [hll] at hst1
  have e1 : ((⟨l.toArray⟩ : ByteArray).toList == (⟨l.toArray⟩ : ByteArray).toList) = true := by simp
  have e2 : ((⟨l.toArray⟩ : ByteArray).toList != (⟨l.toArray⟩ : ByteArray).toList) = false := by simp
  generalize (⟨l.toArray⟩ : ByteArray) = Y at hst1 hst2 e1 e2
  have HLL := hq9 hll
  clear hll hm
  rw [HLL.out]
  have z0 : w4.cell? ⟨g, 0, none⟩ = some (.int .i64 (p : Int)) := BN4.out.cell 0
  have z1 : w4.cell? ⟨g, 1, none⟩ = some (.int .i64 (q : Int)) := BN4.out.cell 1
  have z2 : w4.cell? ⟨g, 2, none⟩ = some (.int .u64 (id : Int)) := BN4.out.cell 2
  have z3 : w4.cell? ⟨g, 3, none⟩ = some (.int .u64 (ver : Int)) := BN4.out.cell 3
  have z4 : w4.cell? ⟨g, 4, none⟩ = some (.int .u64 (ep : Int)) := BN4.out.cell 4
  have z5 : w4.cell? ⟨g, 5, none⟩ = some (.string ks) := BN4.out.cell 5
  have z6 : w4.cell? ⟨g, 6, none⟩ = some (.string vs) := BN4.out.cell 6
  go_wp2_with ((with_reducible show wpList _ _ _ (Oper.mk none _ _ _ _ _ :: _) _ _); refine wpList_store_all rfl 282 (.tmp 2) (.tmp 84) rfl w.heap.size #[.int .i64 (p : Int), .int .i64 (q : Int), .int .u64 (id : Int), .int .u64 (ver : Int), .int .u64 (ep : Int), .string ks, .string vs] rfl rfl _ _ HR4.out rfl blockInfo (blockV_one p q id ver ep ks vs) ?_; intro w5 hb5 ho5; have B5 := hq9 hb5; have O5 := hq9 (O4.out.trans ho5 (by simp)); clear hb5 ho5)
  refine bodyPost_ret (v := .tuple #[blockV p q id ver ep ks vs, .bool true]) (dec_end B5.out rfl rfl rfl) rfl ⟨by rw [HYES.out], O5.out⟩
end Go.Proofs.YtlggichakafkiaaGreat
namespace Go.Proofs.YtlggichakafkiaaGreat
open Go.BigFrame Go.RowKit Go.Proofs.FuMem Go.Proofs.FuTop Go.Proofs.FuNvm Go.Proofs.FuCode Go.Proofs.FuBlock Go.Proofs.FuClass
set_option maxRecDepth 100000
section
variable {gd : Nat} {B : ArB} {S : ArS}
theorem arena_Pool (w : World) (h : ArAt w gd B S) : Calls Tryz.prog 128 #[.pointer (some ⟨B.a, 0, none⟩)] w fun e w' => e = .returned (.pointer (some ⟨B.p, 0, none⟩)) ∧ w = w' := by
 have c0 : w.cell? ⟨B.a, 1, none⟩ = some (.pointer (some ⟨B.p, 0, none⟩)) := h.head.cell 1
 clear h
 go_enter Tryz.func128, Tryz.ntmps128
 go_wp2
 go_ret
 exact ⟨rfl, rfl⟩
theorem arena_Readers (w : World) (h : ArAt w gd B S) : Calls Tryz.prog 283 #[.pointer (some ⟨B.a, 0, none⟩)] w fun e w' => e = .returned (.pointer (some ⟨B.r, 0, none⟩)) ∧ w = w' := by
 have c0 : w.cell? ⟨B.a, 2, none⟩ = some (.pointer (some ⟨B.r, 0, none⟩)) := h.head.cell 2
 clear h
 go_enter Tryz.func283, Tryz.ntmps283
 go_wp2
 go_ret
 exact ⟨rfl, rfl⟩
theorem arena_Clock (w : World) (h : ArAt w gd B S) : Calls Tryz.prog 83 #[.pointer (some ⟨B.a, 0, none⟩)] w fun e w' => e = .returned (.pointer (some ⟨B.k, 0, none⟩)) ∧ w = w' := by
 have c0 : w.cell? ⟨B.a, 3, none⟩ = some (.pointer (some ⟨B.k, 0, none⟩)) := h.head.cell 3
 clear h
 go_enter Tryz.func83, Tryz.ntmps83
 go_wp2
 go_ret
 exact ⟨rfl, rfl⟩
theorem arena_Table (w : World) (h : ArAt w gd B S) : Calls Tryz.prog 110 #[.pointer (some ⟨B.a, 0, none⟩)] w fun e w' => e = .returned (.pointer (some ⟨B.t, 0, none⟩)) ∧ w = w' := by
 have c0 : w.cell? ⟨B.a, 5, none⟩ = some (.pointer (some ⟨B.t, 0, none⟩)) := h.head.cell 5
 clear h
 go_enter Tryz.func110, Tryz.ntmps110
 go_wp2
 go_ret
 exact ⟨rfl, rfl⟩
theorem arena_Line (w : World) (h : ArAt w gd B S) : Calls Tryz.prog 113 #[.pointer (some ⟨B.a, 0, none⟩)] w fun e w' => e = .returned (.pointer (some ⟨B.l, 0, none⟩)) ∧ w = w' := by
 have c0 : w.cell? ⟨B.a, 7, none⟩ = some (.pointer (some ⟨B.l, 0, none⟩)) := h.head.cell 7
 clear h
 go_enter Tryz.func113, Tryz.ntmps113
 go_wp2
 go_ret
 exact ⟨rfl, rfl⟩
theorem arena_Dev (w : World) (h : ArAt w gd B S) : Calls Tryz.prog 57 #[.pointer (some ⟨B.a, 0, none⟩)] w fun e w' => e = .returned (.pointer (some ⟨gd, 0, none⟩)) ∧ w = w' := by
 have c0 : w.cell? ⟨B.a, 0, none⟩ = some (.pointer (some ⟨B.d, 0, none⟩)) := h.head.cell 0
 have c1 : w.cell? ⟨B.d, 0, none⟩ = some (.pointer (some ⟨gd, 0, none⟩)) := h.dev.cell 0
 clear h
 go_enter Tryz.func57, Tryz.ntmps57
 go_wp2
 go_ret
 exact ⟨rfl, rfl⟩
end
theorem chunk_succ (b : Nat → List UInt8) (line j : Nat) : ((List.range (j + 1)).flatMap fun i => b (line + i)) = ((List.range j).flatMap fun i => b (line + i)) ++ b (line + j) := by
 rw [List.range_succ, List.flatMap_append, List.flatMap_singleton]
theorem span_le (c : Int) : span c ≤ 8 := by have := span_cases c; omega
theorem bytesAt_le {w : World} {g cb cap : Nat} {D : Dev} (hd : DevAt w g cb cap D) (i : Nat) : (bytesAt D i).length ≤ 64 := by
 rw [bytesAt_get]
 cases hx : D.lines[i]? with
 | none => simp
 | some x =>
  show x.now.length ≤ 64
  rw [(hd.ok x (List.mem_of_getElem? hx)).1]
  exact Nat.le_refl _
theorem chunk_le {w : World} {g cb cap : Nat} {D : Dev} (hd : DevAt w g cb cap D) (line : Nat) : ∀ j, ((List.range j).flatMap fun i => bytesAt D (line + i)).length ≤ 64 * j
 | 0 => by simp
 | j + 1 => by
  rw [chunk_succ, List.length_append]
  have := chunk_le hd line j
  have := bytesAt_le hd (line + j)
  omega
set_option maxHeartbeats 2000000 in
theorem arena_bytes (gd cb cap line : Nat) (c : Int) (D : Dev) (B : ArB) (S : ArS) (w : World) (h : ArAt w gd B S) (hd : DevAt w gd cb cap D) (hc : -9223372036854775808 ≤ c ∧ c ≤ 9223372036854775807) (hl : line ≤ 100000) :
  Calls Tryz.prog 154 #[.pointer (some ⟨B.a, 0, none⟩), .int .i64 line, .int .i64 c] w fun e w' => ∃ v, e = .returned v ∧ MadeB w (chunk (bytesAt D) line c) v w' := by
 have HA := hq9 h
 clear h
 obtain ⟨i0, hi0, hz0, hz1, hz2⟩ := info_parts Tryz.byteInfo
 have HI0 := hq9 hi0
 have HZ0 := hq9 hz0
 have HZ1 := hq9 hz1
 have HZ2 := hq9 hz2
 have HD := hq9 hd
 have HSP := hq9 (fun w => class_Span c w hc)
 have hm8 := span_le c
 unfold chunk
 generalize span c = m at *
 have HLD := hq9 (show ∀ (j : Nat) (w : World), DevAt w gd cb cap D → Calls Tryz.prog 40 #[.pointer (some ⟨gd, 0, none⟩), .int .i64 ((line : Int) + (j : Int))] w fun e w' => ∃ (A : Option Addr) (n c : Nat) (x : Int), e = .returned (.tuple #[.slice A n c, .int .i64 x]) ∧ Bs w' A n (bytesAt D (line + j)) ∧ n ≤ 64 ∧ Only [] w w' from fun j w h => by
  have := nvm_Load_any gd cb cap D (line + j) w h
  rwa [Int.natCast_add] at this)
 clear hi0 hz0 hz1 hz2 hd hc
 have HDV := hq9 (fun w (h : ArAt w gd B S) => arena_Dev w h)
 go_enter Tryz.func154, Tryz.ntmps154
 go_wp2_with fail
 refine (HSP.out w).mono ?_
 rintro r w' ⟨rfl, rfl⟩
 go_wp2_with fail
 go_loopw [13, 7] (fun vi vo wr => ∃ (j N co : Nat) (Ao : Option Addr), vi = .int .i64 j ∧ vo = .slice Ao N co ∧ j ≤ m ∧ N = ((List.range j).flatMap fun i => bytesAt D (line + i)).length ∧ wr.ownsRow w.heap.size 5 1 (.slice Ao N co) N (((List.range j).flatMap fun i => bytesAt D (line + i)).map Go.Proofs.FuMem.B) ∧ Only [] w wr) (fun vi _ _ => m - (intOf vi).toNat)
 case atStart => exact ⟨0, 0, 0, none, rfl, rfl, by omega, rfl, own_nil _ _ _ _, Only.refl _ _⟩
 case round =>
  obtain ⟨j, N, co, Ao, rfl, rfl, hjm, hN, ho, on⟩ := hrel
  have HO := hq9 ho
  have ON := hq9 on
  have HN := hq9 hN
  have HNL := hq9 (show N ≤ 64 * j by rw [hN]; exact chunk_le HD.out line j)
  clear ho on hN
  by_cases hlt : j < m
  ·have q1 : decide ((j : Int) < (m : Int)) = true := by go_num
   have hwr : IntKind.i64.wrap ((j : Int) + 1) = (j : Int) + 1 := by rw [IntKind.wrap_i64]; omega
   have hwl : IntKind.i64.wrap ((line : Int) + (j : Int)) = (line : Int) + (j : Int) := by rw [IntKind.wrap_i64]; omega
   go_wp2_with fail
   refine (HDV.out wr (HA.out.keep0 ON.out)).mono ?_
   rintro r w' ⟨rfl, rfl⟩
   go_wp2_with fail
   refine (HLD.out j wr (HD.out.only0 ON.out)).mono ?_
   rintro r w1 ⟨A1, n1, c1, x1, rfl, hb1, hn1, o1⟩
   have HB1 := hq9 hb1
   have O1 := hq9 (ON.out.trans0 o1)
   have HO1 := hq9 (own_only HO.out o1 (by simp))
   have HST := hq9 (chunk_succ (bytesAt D) line j)
   have hl1 : n1 = (bytesAt D (line + j)).length := hb1.len.symm
   have HL1 := hq9 hl1
   clear hb1 o1 hl1
   go_wp2_with (at_builtin; obtain ⟨A8, c8, w8, hr8, hw8, hs8, on8⟩ := append_own (P := Tryz.prog) w1 O1.out 71 71 5 i0 _ 1 Tryz.underlying71 HI0.out HZ0.out HZ1.out HZ2.out rfl _ N _ HO1.out A1 n1 c1 ((bytesAt D (line + j)).map Go.Proofs.FuMem.B) HB1.out one_B (by unfold maxLen; have := HNL.out; omega) (by have := HNL.out; omega); rw [← List.map_append, ← HST.out] at hw8; have H8 := hq9 hw8; have N8 := hq9 on8; clear hw8 hs8 on8; refine wpList_append_run _ rfl (.tmp 25) (.tmp 26) 71 rfl _ _ rfl rfl _ _ hr8 ?_)
   go_roundw
   case rel => exact ⟨j + 1, N + n1, c8, A8, congrArg (Value.int .i64) (by omega), rfl, by omega, by rw [HST.out, List.length_append, ← HN.out, ← HL1.out], H8.out, N8.out⟩
   case measure => simp only [intOf]; omega
  ·obtain rfl : m = j := by omega
   have q1 : decide ((m : Int) < (m : Int)) = false := by simp
   go_wp2
   go_ret
   exact ⟨_, rfl, madeB_own HN.out.symm HO.out ON.out⟩
end Go.Proofs.YtlggichakafkiaaGreat
namespace Go.Proofs.YtlggichakafkiaaGreat
open Go.BigFrame Go.RowKit Go.Proofs.FuMem Go.Proofs.FuTop Go.Proofs.FuNvm Go.Proofs.FuCode Go.Proofs.FuBlock Go.Proofs.FuClass
set_option maxRecDepth 100000
theorem own_le {w : World} {base n c : Nat} {e : TypeId} {A : Option Addr} {xs : List Value} (h : w.ownsRow base e 1 (.slice A n c) n xs) : n ≤ c := by
 rcases h.2 with ⟨e1, e2⟩ | ⟨g, cap, cur, hv, hbg, hg, hnc, hcm, hcs, htake⟩
 ·injection e1 with h1 h2 h3
  omega
 ·injection hv with h1 h2 h3
  omega
def ValAns (vv : Option (List UInt8)) (e : Ending) : Prop := ∃ (s : List UInt8) (ok : Bool), e = .returned (.tuple #[.string ⟨s.toArray⟩, .bool ok]) ∧ vv = (if ok = true then some s else none)
set_option maxHeartbeats 8000000 in
theorem arena_value (gd cb cap : Nat) (x : Link) (kind : Int) (D : Dev) (B : ArB) (S : ArS) (w : World) (h : ArAt w gd B S) (hd : DevAt w gd cb cap D) (hc : -9223372036854775808 ≤ x.cls ∧ x.cls ≤ 9223372036854775807) (hl : x.line ≤ 100000) :
  Calls Tryz.prog 112 #[.pointer (some ⟨B.a, 0, none⟩), linkV x, .int .i64 kind] w fun e w' => ValAns (FuTop.valOf (bytesAt D) kind x) e ∧ Only [] w w' := by
 have HBY := hq9 (fun w h hd => arena_bytes gd cb cap x.line x.cls D B S w h hd hc hl)
 have HA := hq9 h
 have HD := hq9 hd
 obtain ⟨l, hll⟩ : ∃ l, l = chunk (bytesAt D) x.line x.cls := ⟨_, rfl⟩
 rw [← hll] at HBY
 have hln : l.length ≤ 512 := by
  rw [hll]
  have := chunk_le hd x.line (span x.cls)
  have := span_le x.cls
  show (List.flatMap _ _).length ≤ 512
  omega
 have HV := hq9 (show FuTop.valOf (bytesAt D) kind x = if reads l ∧ (dec l).kind = kind ∧ (dec l).id = x.id ∧ (dec l).ver = x.ver ∧ (dec l).key = x.key then some (dec l).val else none by
  unfold FuTop.valOf
  rw [← hll]
  by_cases hr : reads l
  ·unfold dec
   rw [if_pos hr]
  ·rw [if_neg (fun h => hr h.1), if_neg (fun h => hr h.1)])
 have HDC := hq9 (fun A c w hb (hcc : l.length ≤ c) => block_Decode A l.length c l w hb (by omega) hcc)
 unfold backV at HDC
 generalize FuTop.valOf (bytesAt D) kind x = vv at *
 clear h hd hc hl hll
 generalize hbb : dec l = b at *
 clear hbb
 obtain ⟨rd, hrd⟩ : ∃ p, p = decide (reads l) := ⟨_, rfl⟩
 rw [← hrd] at HDC
 have HRD := hq9 hrd
 clear hrd
 unfold blockOf at HDC
 generalize hkb : (⟨b.key.toArray⟩ : ByteArray) = kb at *
 generalize hkx : (⟨x.key.toArray⟩ : ByteArray) = kx at *
 have HKB := hq9 hkb
 have HKX := hq9 hkx
 clear hkb hkx
 have BL := hq9 (Blk.new w 70 #[.string kx, .int .u64 x.id, .int .u64 x.ver, .int .i64 x.line, .int .i64 x.cls])
 have OL := hq9 ((Only.refl [] w).alloc (.cells #[.string kx, .int .u64 x.id, .int .u64 x.ver, .int .i64 x.line, .int .i64 x.cls] 70))
 have a3 := BL.out.cell 3
 have a4 := BL.out.cell 4
 rw [show linkV x = .agg #[.string kx, .int .u64 x.id, .int .u64 x.ver, .int .i64 x.line, .int .i64 x.cls] by rw [← HKX.out]; rfl]
 have kid : ((b.id : Int) == (x.id : Int)) = decide (b.id = x.id) := by rw [Bool.eq_iff_iff, beq_iff_eq, decide_eq_true_eq]; omega
 have kve : ((b.ver : Int) == (x.ver : Int)) = decide (b.ver = x.ver) := by rw [Bool.eq_iff_iff, beq_iff_eq, decide_eq_true_eq]; omega
 have kki : (b.kind == kind) = decide (b.kind = kind) := by rw [Bool.eq_iff_iff]; simp
 have KS := hq9 (show (kb.toList == kx.toList) = decide (b.key = x.key) by
  rw [← HKB.out, ← HKX.out, toList_beq, Bool.eq_iff_iff, beq_iff_eq, decide_eq_true_eq])
 cases rd with
 | false =>
  have HNR := hq9 (show ¬ reads l from by have := HRD.out; simpa using this.symm)
  go_enter Tryz.func112, Tryz.ntmps112
  go_wp2_with fail
  generalize (w.alloc _) = w1 at *
  refine (HBY.out w1 (HA.out.keep0 OL.out) (HD.out.only0 OL.out)).mono ?_
  rintro r w2 ⟨v, rfl, A2, c2, rfl, ho2, o2⟩
  have hbs := (show Bs w2 A2 l.length l from Sl.of_own ho2)
  have hcc := own_le ho2
  have O2 := hq9 (OL.out.trans0 o2)
  have L2 := hq9 (BL.out.only o2 (by simp))
  have HD2 := hq9 (HDC.out A2 c2 w2 hbs hcc)
  clear ho2 o2 hbs hcc a3 a4
  go_wp2_with fail
  refine HD2.out.mono ?_
  rintro r w3 ⟨rfl, o3⟩
  have O3 := hq9 (O2.out.trans0 o3)
  have L3 := hq9 (L2.out.only o3 (by simp))
  clear o3
  have BB := hq9 (Blk.new w3 282 #[.int .i64 b.cls, .int .i64 b.kind, .int .u64 b.id, .int .u64 b.ver, .int .u64 b.ep, .string kb, .string ⟨b.val.toArray⟩])
  have o4 := (Only.refl [] w3).alloc (.cells #[.int .i64 b.cls, .int .i64 b.kind, .int .u64 b.id, .int .u64 b.ver, .int .u64 b.ep, .string kb, .string ⟨b.val.toArray⟩] 282)
  have O4 := hq9 (O3.out.trans0 o4)
  have L4 := hq9 (L3.out.only o4 (by simp))
  clear o4
  go_wp2_with fail
  generalize (w3.alloc _) = w4 at *
  have b1 := BB.out.cell 1
  have b2 := BB.out.cell 2
  have b3 := BB.out.cell 3
  have b5 := BB.out.cell 5
  have b6 := BB.out.cell 6
  have l0 := L4.out.cell 0
  have l1 := L4.out.cell 1
  have l2 := L4.out.cell 2
  have hle : w3.heap.size = w3.heap.size := rfl
  refine wp_region_later w4 (by kernel_rfl) (by kernel_rfl) ?_
  have fb1 := fun (p : Later w4) => Later.cell p b1
  have fb2 := fun (p : Later w4) => Later.cell p b2
  have fb3 := fun (p : Later w4) => Later.cell p b3
  have fb5 := fun (p : Later w4) => Later.cell p b5
  have fb6 := fun (p : Later w4) => Later.cell p b6
  have fl0 := fun (p : Later w4) => Later.cell p l0
  have fl1 := fun (p : Later w4) => Later.cell p l1
  have fl2 := fun (p : Later w4) => Later.cell p l2
  clear b1 b2 b3 b5 b6 l0 l1 l2
  repeat (go_big_quiet_step (fail))
  repeat (go_big_quiet_step (fail))
  refine wpQuiet_nil ?_
  intro _ hw'
  obtain ⟨p, hw''⟩ := hw'
  subst hw''
  have opw := p.only
  generalize p.w = w5 at *
  have O5 := hq9 (O4.out.trans0 opw)
  clear opw fb1 fb2 fb3 fb5 fb6 fl0 fl1 fl2
  go_wp2
  go_ret2
  exact ⟨⟨b.val, false, rfl, by rw [HV.out]; rw [if_neg (fun h => HNR.out h.1)]; rfl⟩, O5.out⟩
 | true =>
  have HNR := hq9 (show reads l from by have := HRD.out; simpa using this.symm)
  by_cases q0 : b.kind = kind
  ·rw [decide_eq_true q0] at kki
   have Q0 := hq9 q0
   clear q0
   by_cases q1 : b.id = x.id
   ·rw [decide_eq_true q1] at kid
    have Q1 := hq9 q1
    clear q1
    by_cases q2 : b.ver = x.ver
    ·rw [decide_eq_true q2] at kve
     have Q2 := hq9 q2
     clear q2
     by_cases q3 : b.key = x.key
     ·have ks : (kb.toList == kx.toList) = true := by rw [KS.out, decide_eq_true q3]
      have Q3 := hq9 q3
      clear q3
      go_enter Tryz.func112, Tryz.ntmps112
      go_wp2_with fail
      generalize (w.alloc _) = w1 at *
      refine (HBY.out w1 (HA.out.keep0 OL.out) (HD.out.only0 OL.out)).mono ?_
      rintro r w2 ⟨v, rfl, A2, c2, rfl, ho2, o2⟩
      have hbs := (show Bs w2 A2 l.length l from Sl.of_own ho2)
      have hcc := own_le ho2
      have O2 := hq9 (OL.out.trans0 o2)
      have L2 := hq9 (BL.out.only o2 (by simp))
      have HD2 := hq9 (HDC.out A2 c2 w2 hbs hcc)
      clear ho2 o2 hbs hcc a3 a4
      go_wp2_with fail
      refine HD2.out.mono ?_
      rintro r w3 ⟨rfl, o3⟩
      have O3 := hq9 (O2.out.trans0 o3)
      have L3 := hq9 (L2.out.only o3 (by simp))
      clear o3
      have BB := hq9 (Blk.new w3 282 #[.int .i64 b.cls, .int .i64 b.kind, .int .u64 b.id, .int .u64 b.ver, .int .u64 b.ep, .string kb, .string ⟨b.val.toArray⟩])
      have o4 := (Only.refl [] w3).alloc (.cells #[.int .i64 b.cls, .int .i64 b.kind, .int .u64 b.id, .int .u64 b.ver, .int .u64 b.ep, .string kb, .string ⟨b.val.toArray⟩] 282)
      have O4 := hq9 (O3.out.trans0 o4)
      have L4 := hq9 (L3.out.only o4 (by simp))
      clear o4
      go_wp2_with fail
      generalize (w3.alloc _) = w4 at *
      have b1 := BB.out.cell 1
      have b2 := BB.out.cell 2
      have b3 := BB.out.cell 3
      have b5 := BB.out.cell 5
      have b6 := BB.out.cell 6
      have l0 := L4.out.cell 0
      have l1 := L4.out.cell 1
      have l2 := L4.out.cell 2
      have hle : w3.heap.size = w3.heap.size := rfl
      refine wp_region_later w4 (by kernel_rfl) (by kernel_rfl) ?_
      have fb1 := fun (p : Later w4) => Later.cell p b1
      have fb2 := fun (p : Later w4) => Later.cell p b2
      have fb3 := fun (p : Later w4) => Later.cell p b3
      have fb5 := fun (p : Later w4) => Later.cell p b5
      have fb6 := fun (p : Later w4) => Later.cell p b6
      have fl0 := fun (p : Later w4) => Later.cell p l0
      have fl1 := fun (p : Later w4) => Later.cell p l1
      have fl2 := fun (p : Later w4) => Later.cell p l2
      clear b1 b2 b3 b5 b6 l0 l1 l2
      repeat (go_big_quiet_step (fail))
      repeat (go_big_quiet_step (fail))
      refine wpQuiet_nil ?_
      intro _ hw'
      obtain ⟨p, hw''⟩ := hw'
      subst hw''
      have opw := p.only
      generalize p.w = w5 at *
      have O5 := hq9 (O4.out.trans0 opw)
      clear opw fb1 fb2 fb3 fb5 fb6 fl0 fl1 fl2
      go_wp2
      go_ret2
      exact ⟨⟨b.val, true, rfl, by rw [HV.out]; rw [if_pos ⟨HNR.out, Q0.out, Q1.out, Q2.out, Q3.out⟩]; rfl⟩, O5.out⟩
     ·have ks : (kb.toList == kx.toList) = false := by rw [KS.out, decide_eq_false q3]
      have Q3 := hq9 q3
      clear q3
      go_enter Tryz.func112, Tryz.ntmps112
      go_wp2_with fail
      generalize (w.alloc _) = w1 at *
      refine (HBY.out w1 (HA.out.keep0 OL.out) (HD.out.only0 OL.out)).mono ?_
      rintro r w2 ⟨v, rfl, A2, c2, rfl, ho2, o2⟩
      have hbs := (show Bs w2 A2 l.length l from Sl.of_own ho2)
      have hcc := own_le ho2
      have O2 := hq9 (OL.out.trans0 o2)
      have L2 := hq9 (BL.out.only o2 (by simp))
      have HD2 := hq9 (HDC.out A2 c2 w2 hbs hcc)
      clear ho2 o2 hbs hcc a3 a4
      go_wp2_with fail
      refine HD2.out.mono ?_
      rintro r w3 ⟨rfl, o3⟩
      have O3 := hq9 (O2.out.trans0 o3)
      have L3 := hq9 (L2.out.only o3 (by simp))
      clear o3
      have BB := hq9 (Blk.new w3 282 #[.int .i64 b.cls, .int .i64 b.kind, .int .u64 b.id, .int .u64 b.ver, .int .u64 b.ep, .string kb, .string ⟨b.val.toArray⟩])
      have o4 := (Only.refl [] w3).alloc (.cells #[.int .i64 b.cls, .int .i64 b.kind, .int .u64 b.id, .int .u64 b.ver, .int .u64 b.ep, .string kb, .string ⟨b.val.toArray⟩] 282)
      have O4 := hq9 (O3.out.trans0 o4)
      have L4 := hq9 (L3.out.only o4 (by simp))
      clear o4
      go_wp2_with fail
      generalize (w3.alloc _) = w4 at *
      have b1 := BB.out.cell 1
      have b2 := BB.out.cell 2
      have b3 := BB.out.cell 3
      have b5 := BB.out.cell 5
      have b6 := BB.out.cell 6
      have l0 := L4.out.cell 0
      have l1 := L4.out.cell 1
      have l2 := L4.out.cell 2
      have hle : w3.heap.size = w3.heap.size := rfl
      refine wp_region_later w4 (by kernel_rfl) (by kernel_rfl) ?_
      have fb1 := fun (p : Later w4) => Later.cell p b1
      have fb2 := fun (p : Later w4) => Later.cell p b2
      have fb3 := fun (p : Later w4) => Later.cell p b3
      have fb5 := fun (p : Later w4) => Later.cell p b5
      have fb6 := fun (p : Later w4) => Later.cell p b6
      have fl0 := fun (p : Later w4) => Later.cell p l0
      have fl1 := fun (p : Later w4) => Later.cell p l1
      have fl2 := fun (p : Later w4) => Later.cell p l2
      clear b1 b2 b3 b5 b6 l0 l1 l2
      repeat (go_big_quiet_step (fail))
      repeat (go_big_quiet_step (fail))
      refine wpQuiet_nil ?_
      intro _ hw'
      obtain ⟨p, hw''⟩ := hw'
      subst hw''
      have opw := p.only
      generalize p.w = w5 at *
      have O5 := hq9 (O4.out.trans0 opw)
      clear opw fb1 fb2 fb3 fb5 fb6 fl0 fl1 fl2
      go_wp2
      go_ret2
      exact ⟨⟨b.val, false, rfl, by rw [HV.out]; rw [if_neg (fun h => Q3.out h.2.2.2.2)]; rfl⟩, O5.out⟩
    ·rw [decide_eq_false q2] at kve
     have Q2 := hq9 q2
     clear q2
     go_enter Tryz.func112, Tryz.ntmps112
     go_wp2_with fail
     generalize (w.alloc _) = w1 at *
     refine (HBY.out w1 (HA.out.keep0 OL.out) (HD.out.only0 OL.out)).mono ?_
     rintro r w2 ⟨v, rfl, A2, c2, rfl, ho2, o2⟩
     have hbs := (show Bs w2 A2 l.length l from Sl.of_own ho2)
     have hcc := own_le ho2
     have O2 := hq9 (OL.out.trans0 o2)
     have L2 := hq9 (BL.out.only o2 (by simp))
     have HD2 := hq9 (HDC.out A2 c2 w2 hbs hcc)
     clear ho2 o2 hbs hcc a3 a4
     go_wp2_with fail
     refine HD2.out.mono ?_
     rintro r w3 ⟨rfl, o3⟩
     have O3 := hq9 (O2.out.trans0 o3)
     have L3 := hq9 (L2.out.only o3 (by simp))
     clear o3
     have BB := hq9 (Blk.new w3 282 #[.int .i64 b.cls, .int .i64 b.kind, .int .u64 b.id, .int .u64 b.ver, .int .u64 b.ep, .string kb, .string ⟨b.val.toArray⟩])
     have o4 := (Only.refl [] w3).alloc (.cells #[.int .i64 b.cls, .int .i64 b.kind, .int .u64 b.id, .int .u64 b.ver, .int .u64 b.ep, .string kb, .string ⟨b.val.toArray⟩] 282)
     have O4 := hq9 (O3.out.trans0 o4)
     have L4 := hq9 (L3.out.only o4 (by simp))
     clear o4
     go_wp2_with fail
     generalize (w3.alloc _) = w4 at *
     have b1 := BB.out.cell 1
     have b2 := BB.out.cell 2
     have b3 := BB.out.cell 3
     have b5 := BB.out.cell 5
     have b6 := BB.out.cell 6
     have l0 := L4.out.cell 0
     have l1 := L4.out.cell 1
     have l2 := L4.out.cell 2
     have hle : w3.heap.size = w3.heap.size := rfl
     refine wp_region_later w4 (by kernel_rfl) (by kernel_rfl) ?_
     have fb1 := fun (p : Later w4) => Later.cell p b1
     have fb2 := fun (p : Later w4) => Later.cell p b2
     have fb3 := fun (p : Later w4) => Later.cell p b3
     have fb5 := fun (p : Later w4) => Later.cell p b5
     have fb6 := fun (p : Later w4) => Later.cell p b6
     have fl0 := fun (p : Later w4) => Later.cell p l0
     have fl1 := fun (p : Later w4) => Later.cell p l1
     have fl2 := fun (p : Later w4) => Later.cell p l2
     clear b1 b2 b3 b5 b6 l0 l1 l2
     repeat (go_big_quiet_step (fail))
     repeat (go_big_quiet_step (fail))
     refine wpQuiet_nil ?_
     intro _ hw'
     obtain ⟨p, hw''⟩ := hw'
     subst hw''
     have opw := p.only
     generalize p.w = w5 at *
     have O5 := hq9 (O4.out.trans0 opw)
     clear opw fb1 fb2 fb3 fb5 fb6 fl0 fl1 fl2
     go_wp2
     go_ret2
     exact ⟨⟨b.val, false, rfl, by rw [HV.out]; rw [if_neg (fun h => Q2.out h.2.2.2.1)]; rfl⟩, O5.out⟩
   ·rw [decide_eq_false q1] at kid
    have Q1 := hq9 q1
    clear q1
    go_enter Tryz.func112, Tryz.ntmps112
    go_wp2_with fail
    generalize (w.alloc _) = w1 at *
    refine (HBY.out w1 (HA.out.keep0 OL.out) (HD.out.only0 OL.out)).mono ?_
    rintro r w2 ⟨v, rfl, A2, c2, rfl, ho2, o2⟩
    have hbs := (show Bs w2 A2 l.length l from Sl.of_own ho2)
    have hcc := own_le ho2
    have O2 := hq9 (OL.out.trans0 o2)
    have L2 := hq9 (BL.out.only o2 (by simp))
    have HD2 := hq9 (HDC.out A2 c2 w2 hbs hcc)
    clear ho2 o2 hbs hcc a3 a4
    go_wp2_with fail
    refine HD2.out.mono ?_
    rintro r w3 ⟨rfl, o3⟩
    have O3 := hq9 (O2.out.trans0 o3)
    have L3 := hq9 (L2.out.only o3 (by simp))
    clear o3
    have BB := hq9 (Blk.new w3 282 #[.int .i64 b.cls, .int .i64 b.kind, .int .u64 b.id, .int .u64 b.ver, .int .u64 b.ep, .string kb, .string ⟨b.val.toArray⟩])
    have o4 := (Only.refl [] w3).alloc (.cells #[.int .i64 b.cls, .int .i64 b.kind, .int .u64 b.id, .int .u64 b.ver, .int .u64 b.ep, .string kb, .string ⟨b.val.toArray⟩] 282)
    have O4 := hq9 (O3.out.trans0 o4)
    have L4 := hq9 (L3.out.only o4 (by simp))
    clear o4
    go_wp2_with fail
    generalize (w3.alloc _) = w4 at *
    have b1 := BB.out.cell 1
    have b2 := BB.out.cell 2
    have b3 := BB.out.cell 3
    have b5 := BB.out.cell 5
    have b6 := BB.out.cell 6
    have l0 := L4.out.cell 0
    have l1 := L4.out.cell 1
    have l2 := L4.out.cell 2
    have hle : w3.heap.size = w3.heap.size := rfl
    refine wp_region_later w4 (by kernel_rfl) (by kernel_rfl) ?_
    have fb1 := fun (p : Later w4) => Later.cell p b1
    have fb2 := fun (p : Later w4) => Later.cell p b2
    have fb3 := fun (p : Later w4) => Later.cell p b3
    have fb5 := fun (p : Later w4) => Later.cell p b5
    have fb6 := fun (p : Later w4) => Later.cell p b6
    have fl0 := fun (p : Later w4) => Later.cell p l0
    have fl1 := fun (p : Later w4) => Later.cell p l1
    have fl2 := fun (p : Later w4) => Later.cell p l2
    clear b1 b2 b3 b5 b6 l0 l1 l2
    repeat (go_big_quiet_step (fail))
    repeat (go_big_quiet_step (fail))
    refine wpQuiet_nil ?_
    intro _ hw'
    obtain ⟨p, hw''⟩ := hw'
    subst hw''
    have opw := p.only
    generalize p.w = w5 at *
    have O5 := hq9 (O4.out.trans0 opw)
    clear opw fb1 fb2 fb3 fb5 fb6 fl0 fl1 fl2
    go_wp2
    go_ret2
    exact ⟨⟨b.val, false, rfl, by rw [HV.out]; rw [if_neg (fun h => Q1.out h.2.2.1)]; rfl⟩, O5.out⟩
  ·rw [decide_eq_false q0] at kki
   have Q0 := hq9 q0
   clear q0
   go_enter Tryz.func112, Tryz.ntmps112
   go_wp2_with fail
   generalize (w.alloc _) = w1 at *
   refine (HBY.out w1 (HA.out.keep0 OL.out) (HD.out.only0 OL.out)).mono ?_
   rintro r w2 ⟨v, rfl, A2, c2, rfl, ho2, o2⟩
   have hbs := (show Bs w2 A2 l.length l from Sl.of_own ho2)
   have hcc := own_le ho2
   have O2 := hq9 (OL.out.trans0 o2)
   have L2 := hq9 (BL.out.only o2 (by simp))
   have HD2 := hq9 (HDC.out A2 c2 w2 hbs hcc)
   clear ho2 o2 hbs hcc a3 a4
   go_wp2_with fail
   refine HD2.out.mono ?_
   rintro r w3 ⟨rfl, o3⟩
   have O3 := hq9 (O2.out.trans0 o3)
   have L3 := hq9 (L2.out.only o3 (by simp))
   clear o3
   have BB := hq9 (Blk.new w3 282 #[.int .i64 b.cls, .int .i64 b.kind, .int .u64 b.id, .int .u64 b.ver, .int .u64 b.ep, .string kb, .string ⟨b.val.toArray⟩])
   have o4 := (Only.refl [] w3).alloc (.cells #[.int .i64 b.cls, .int .i64 b.kind, .int .u64 b.id, .int .u64 b.ver, .int .u64 b.ep, .string kb, .string ⟨b.val.toArray⟩] 282)
   have O4 := hq9 (O3.out.trans0 o4)
   have L4 := hq9 (L3.out.only o4 (by simp))
   clear o4
   go_wp2_with fail
   generalize (w3.alloc _) = w4 at *
   have b1 := BB.out.cell 1
   have b2 := BB.out.cell 2
   have b3 := BB.out.cell 3
   have b5 := BB.out.cell 5
   have b6 := BB.out.cell 6
   have l0 := L4.out.cell 0
   have l1 := L4.out.cell 1
   have l2 := L4.out.cell 2
   have hle : w3.heap.size = w3.heap.size := rfl
   refine wp_region_later w4 (by kernel_rfl) (by kernel_rfl) ?_
   have fb1 := fun (p : Later w4) => Later.cell p b1
   have fb2 := fun (p : Later w4) => Later.cell p b2
   have fb3 := fun (p : Later w4) => Later.cell p b3
   have fb5 := fun (p : Later w4) => Later.cell p b5
   have fb6 := fun (p : Later w4) => Later.cell p b6
   have fl0 := fun (p : Later w4) => Later.cell p l0
   have fl1 := fun (p : Later w4) => Later.cell p l1
   have fl2 := fun (p : Later w4) => Later.cell p l2
   clear b1 b2 b3 b5 b6 l0 l1 l2
   repeat (go_big_quiet_step (fail))
   repeat (go_big_quiet_step (fail))
   refine wpQuiet_nil ?_
   intro _ hw'
   obtain ⟨p, hw''⟩ := hw'
   subst hw''
   have opw := p.only
   generalize p.w = w5 at *
   have O5 := hq9 (O4.out.trans0 opw)
   clear opw fb1 fb2 fb3 fb5 fb6 fl0 fl1 fl2
   go_wp2
   go_ret2
   exact ⟨⟨b.val, false, rfl, by rw [HV.out]; rw [if_neg (fun h => Q0.out h.2.1)]; rfl⟩, O5.out⟩
end Go.Proofs.YtlggichakafkiaaGreat
namespace Go.Proofs.YtlggichakafkiaaGreat
open Go.BigFrame Go.RowKit Go.Proofs.FuMem Go.Proofs.FuTop Go.Proofs.FuNvm Go.Proofs.FuCode Go.Proofs.FuBlock Go.Proofs.FuClass
set_option maxRecDepth 100000
theorem Blk.fill9 {w : World} {g : Nat} {t : TypeId} {u0 u1 u2 u3 u4 u5 u6 u7 u8 : Value} (hb : Blk w g t #[u0, u1, u2, u3, u4, u5, u6, u7, u8]) (v0 v1 v2 v3 v4 v5 v6 v7 v8 : Value) :
  Blk (((((((((w.setCell ⟨g, 0, none⟩ v0).setCell ⟨g, 1, none⟩ v1).setCell ⟨g, 2, none⟩ v2).setCell ⟨g, 3, none⟩ v3).setCell ⟨g, 4, none⟩ v4).setCell ⟨g, 5, none⟩ v5).setCell ⟨g, 6, none⟩ v6).setCell ⟨g, 7, none⟩ v7).setCell ⟨g, 8, none⟩ v8) g t #[v0, v1, v2, v3, v4, v5, v6, v7, v8] ∧
  Only [g] w (((((((((w.setCell ⟨g, 0, none⟩ v0).setCell ⟨g, 1, none⟩ v1).setCell ⟨g, 2, none⟩ v2).setCell ⟨g, 3, none⟩ v3).setCell ⟨g, 4, none⟩ v4).setCell ⟨g, 5, none⟩ v5).setCell ⟨g, 6, none⟩ v6).setCell ⟨g, 7, none⟩ v7).setCell ⟨g, 8, none⟩ v8) := by
 have h0 : Blk (w.setCell ⟨g, 0, none⟩ v0) g t #[v0, u1, u2, u3, u4, u5, u6, u7, u8] := by simpa using hb.set 0 v0
 have h1 : Blk ((w.setCell ⟨g, 0, none⟩ v0).setCell ⟨g, 1, none⟩ v1) g t #[v0, v1, u2, u3, u4, u5, u6, u7, u8] := by simpa using h0.set 1 v1
 have h2 : Blk (((w.setCell ⟨g, 0, none⟩ v0).setCell ⟨g, 1, none⟩ v1).setCell ⟨g, 2, none⟩ v2) g t #[v0, v1, v2, u3, u4, u5, u6, u7, u8] := by simpa using h1.set 2 v2
 have h3 : Blk ((((w.setCell ⟨g, 0, none⟩ v0).setCell ⟨g, 1, none⟩ v1).setCell ⟨g, 2, none⟩ v2).setCell ⟨g, 3, none⟩ v3) g t #[v0, v1, v2, v3, u4, u5, u6, u7, u8] := by simpa using h2.set 3 v3
 have h4 : Blk (((((w.setCell ⟨g, 0, none⟩ v0).setCell ⟨g, 1, none⟩ v1).setCell ⟨g, 2, none⟩ v2).setCell ⟨g, 3, none⟩ v3).setCell ⟨g, 4, none⟩ v4) g t #[v0, v1, v2, v3, v4, u5, u6, u7, u8] := by simpa using h3.set 4 v4
 have h5 : Blk ((((((w.setCell ⟨g, 0, none⟩ v0).setCell ⟨g, 1, none⟩ v1).setCell ⟨g, 2, none⟩ v2).setCell ⟨g, 3, none⟩ v3).setCell ⟨g, 4, none⟩ v4).setCell ⟨g, 5, none⟩ v5) g t #[v0, v1, v2, v3, v4, v5, u6, u7, u8] := by simpa using h4.set 5 v5
 have h6 : Blk (((((((w.setCell ⟨g, 0, none⟩ v0).setCell ⟨g, 1, none⟩ v1).setCell ⟨g, 2, none⟩ v2).setCell ⟨g, 3, none⟩ v3).setCell ⟨g, 4, none⟩ v4).setCell ⟨g, 5, none⟩ v5).setCell ⟨g, 6, none⟩ v6) g t #[v0, v1, v2, v3, v4, v5, v6, u7, u8] := by simpa using h5.set 6 v6
 have h7 : Blk ((((((((w.setCell ⟨g, 0, none⟩ v0).setCell ⟨g, 1, none⟩ v1).setCell ⟨g, 2, none⟩ v2).setCell ⟨g, 3, none⟩ v3).setCell ⟨g, 4, none⟩ v4).setCell ⟨g, 5, none⟩ v5).setCell ⟨g, 6, none⟩ v6).setCell ⟨g, 7, none⟩ v7) g t #[v0, v1, v2, v3, v4, v5, v6, v7, u8] := by simpa using h6.set 7 v7
 have h8 : Blk (((((((((w.setCell ⟨g, 0, none⟩ v0).setCell ⟨g, 1, none⟩ v1).setCell ⟨g, 2, none⟩ v2).setCell ⟨g, 3, none⟩ v3).setCell ⟨g, 4, none⟩ v4).setCell ⟨g, 5, none⟩ v5).setCell ⟨g, 6, none⟩ v6).setCell ⟨g, 7, none⟩ v7).setCell ⟨g, 8, none⟩ v8) g t #[v0, v1, v2, v3, v4, v5, v6, v7, v8] := by simpa using h7.set 8 v8
 refine ⟨h8, ?_⟩
 have h : ∀ {w' : World} (i : Nat) (v : Value), Only [g] w w' → Only [g] w (w'.setCell ⟨g, i, none⟩ v) := fun i v ho => ho.setCell (p := ⟨g, i, none⟩) (.inl (by simp)) v
 exact h _ _ (h _ _ (h _ _ (h _ _ (h _ _ (h _ _ (h _ _ (h _ _ (h _ _ (Only.refl _ _)))))))))
set_option maxHeartbeats 1500000 in
theorem rv_look (g gd cb cap line : Nat) (c k : Int) (D : Dev) (cs : Array Value) (w : World) (hb : Blk w g 229 cs) (h0 : cs[0]? = some (.pointer (some ⟨gd, 0, none⟩))) (hd : DevAt w gd cb cap D) (hc : -9223372036854775808 ≤ c ∧ c ≤ 9223372036854775807) (hl : line ≤ 100000) :
  Calls Tryz.prog 196 #[.pointer (some ⟨g, 0, none⟩), .int .i64 line, .int .i64 c, .int .i64 k] w fun r w' => r = .returned (foundV (FuTop.look (bytesAt D) line c k)) ∧ Only [] w w' := by
 have HB := hq9 hb
 have H0 := hq9 h0
 have HHM := hq9 (fun w => class_Home line c w hc)
 obtain ⟨l, hll⟩ : ∃ l, l = chunk (bytesAt D) line c := ⟨_, rfl⟩
 have HFV := hq9 (show foundV (FuTop.look (bytesAt D) line c k) = if home line c = true ∧ reads l then foundV ⟨line, true, dec l⟩ else .agg #[.int .i64 line, .bool false, .int .i64 c, .int .i64 k, .int .u64 0, .int .u64 0, .int .u64 0, .string ⟨#[]⟩, .string ⟨#[]⟩] by
  rw [hll]
  unfold FuTop.look
  by_cases h : home line c = true ∧ reads (chunk (bytesAt D) line c)
  ·rw [if_pos h, if_pos h]
   unfold dec
   rw [if_pos h.2]
  ·rw [if_neg h, if_neg h]
   rfl)
 generalize foundV (FuTop.look (bytesAt D) line c k) = ans at *
 have hln : l.length ≤ 512 := by
  rw [hll]
  have := chunk_le hd line (span c)
  have := span_le c
  show (List.flatMap _ _).length ≤ 512
  omega
 have HDC := hq9 (fun A c w hb (hcc : l.length ≤ c) => block_Decode A l.length c l w hb (by omega) hcc)
 unfold backV at HDC
 unfold chunk at hll
 have HLL := hq9 hll
 clear hll
 have OZ := ((Only.refl [] w).alloc (.cells #[.int .i64 0, .bool false, .int .i64 0, .int .i64 0, .int .u64 0, .int .u64 0, .int .u64 0, .string ⟨#[]⟩, .string ⟨#[]⟩] 339)).alloc (.cells #[.int .i64 line, .bool false, .int .i64 c, .int .i64 k, .int .u64 0, .int .u64 0, .int .u64 0, .string ⟨#[]⟩, .string ⟨#[]⟩] 339)
 have O1 := hq9 OZ
 have BR := hq9 ((Blk.new w 339 #[.int .i64 0, .bool false, .int .i64 0, .int .i64 0, .int .u64 0, .int .u64 0, .int .u64 0, .string ⟨#[]⟩, .string ⟨#[]⟩]).only ((Only.refl [] _).alloc (.cells #[.int .i64 line, .bool false, .int .i64 c, .int .i64 k, .int .u64 0, .int .u64 0, .int .u64 0, .string ⟨#[]⟩, .string ⟨#[]⟩] 339)) (by simp))
 have BB := hq9 (Blk.new2 w (.cells #[.int .i64 0, .bool false, .int .i64 0, .int .i64 0, .int .u64 0, .int .u64 0, .int .u64 0, .string ⟨#[]⟩, .string ⟨#[]⟩] 339) 339 #[.int .i64 line, .bool false, .int .i64 c, .int .i64 k, .int .u64 0, .int .u64 0, .int .u64 0, .string ⟨#[]⟩, .string ⟨#[]⟩])
 clear hb h0 OZ
 generalize home line c = hm at *
 obtain ⟨i0, hi0, hz0, hz1, hz2⟩ := info_parts Tryz.byteInfo
 have HI0 := hq9 hi0
 have HZ0 := hq9 hz0
 have HZ1 := hq9 hz1
 have HZ2 := hq9 hz2
 have HD := hq9 hd
 have HSP := hq9 (fun w => class_Span c w hc)
 have hm8 := span_le c
 generalize span c = m at *
 have HLD := hq9 (show ∀ (j : Nat) (w : World), DevAt w gd cb cap D → Calls Tryz.prog 40 #[.pointer (some ⟨gd, 0, none⟩), .int .i64 ((line : Int) + (j : Int))] w fun e w' => ∃ (A : Option Addr) (n c : Nat) (x : Int), e = .returned (.tuple #[.slice A n c, .int .i64 x]) ∧ Bs w' A n (bytesAt D (line + j)) ∧ n ≤ 64 ∧ Only [] w w' from fun j w h => by
  have := nvm_Load_any gd cb cap D (line + j) w h
  rwa [Int.natCast_add] at this)
 clear hi0 hz0 hz1 hz2 hd hc
 cases hm with
 | false =>
  have HA := hq9 (show ans = .agg #[.int .i64 line, .bool false, .int .i64 c, .int .i64 k, .int .u64 0, .int .u64 0, .int .u64 0, .string ⟨#[]⟩, .string ⟨#[]⟩] by rw [HFV.out, if_neg (fun h => by cases h.1)])
  go_enter Tryz.func196, Tryz.ntmps196
  go_wp2_with fail
  generalize ((w.alloc _).alloc _) = w1 at *
  refine (HHM.out w1).mono ?_
  rintro r w2 ⟨rfl, o2⟩
  have BR2 := hq9 (BR.out.only o2 (by simp))
  have BB2 := hq9 (BB.out.only o2 (by simp))
  have O2 := hq9 (O1.out.trans0 o2)
  clear o2
  have z0 := BB2.out.cell 0
  have z1 := BB2.out.cell 1
  have z2 := BB2.out.cell 2
  have z3 := BB2.out.cell 3
  have z4 := BB2.out.cell 4
  have z5 := BB2.out.cell 5
  have z6 := BB2.out.cell 6
  have z7 := BB2.out.cell 7
  have z8 := BB2.out.cell 8
  have r0 := BR2.out.cell 0
  have r1 := BR2.out.cell 1
  have r2 := BR2.out.cell 2
  have r3 := BR2.out.cell 3
  have r4 := BR2.out.cell 4
  have r5 := BR2.out.cell 5
  have r6 := BR2.out.cell 6
  have r7 := BR2.out.cell 7
  have r8 := BR2.out.cell 8
  have s0 := BR2.out.frozen 0
  have s1 := BR2.out.frozen 1
  have s2 := BR2.out.frozen 2
  have s3 := BR2.out.frozen 3
  have s4 := BR2.out.frozen 4
  have s5 := BR2.out.frozen 5
  have s6 := BR2.out.frozen 6
  have s7 := BR2.out.frozen 7
  have s8 := BR2.out.frozen 8
  have FILL := hq9 (Blk.fill9 BR2.out (.int .i64 line) (.bool false) (.int .i64 c) (.int .i64 k) (.int .u64 0) (.int .u64 0) (.int .u64 0) (.string ⟨#[]⟩) (.string ⟨#[]⟩))
  go_wp2_with fail
  generalize (((((((((World.setCell _ _ _).setCell _ _).setCell _ _).setCell _ _).setCell _ _).setCell _ _).setCell _ _).setCell _ _).setCell _ _) = w20 at *
  go_wp2
  refine bodyPost_ret (results_cell_row rfl _ _ w.heap.size 339 _ _ _ rfl FILL.out.1 Tryz.underlying339 rfl (by kernel_rfl)) rfl ⟨by rw [HA.out], O2.out.trans FILL.out.2 (by simp)⟩
 | true =>
  go_enter Tryz.func196, Tryz.ntmps196
  go_wp2_with fail
  generalize ((w.alloc _).alloc _) = w1 at *
  refine (HHM.out w1).mono ?_
  rintro r w2 ⟨rfl, o2⟩
  have BR2 := hq9 (BR.out.only o2 (by simp))
  have BB2 := hq9 (BB.out.only o2 (by simp))
  have O2 := hq9 (O1.out.trans0 o2)
  clear o2
  go_wp2_with fail
  refine (HSP.out w2).mono ?_
  rintro r w' ⟨rfl, rfl⟩
  go_wp2_with fail
  go_loopw [28, 10] (fun vi vo wr => ∃ (j N co : Nat) (Ao : Option Addr), vi = .int .i64 j ∧ vo = .slice Ao N co ∧ j ≤ m ∧ N = ((List.range j).flatMap fun i => bytesAt D (line + i)).length ∧ wr.ownsRow w2.heap.size 5 1 (.slice Ao N co) N (((List.range j).flatMap fun i => bytesAt D (line + i)).map Go.Proofs.FuMem.B) ∧ Only [] w2 wr) (fun vi _ _ => m - (intOf vi).toNat)
  case atStart => exact ⟨0, 0, 0, none, rfl, rfl, by omega, rfl, own_nil _ _ _ _, Only.refl _ _⟩
  case round =>
   obtain ⟨j, N, co, Ao, rfl, rfl, hjm, hN, ho, on⟩ := hrel
   have HO := hq9 ho
   have ON := hq9 on
   have HN := hq9 hN
   have HNL := hq9 (show N ≤ 64 * j by rw [hN]; exact chunk_le HD.out line j)
   clear ho on hN
   by_cases hlt : j < m
   ·have q1 : decide ((j : Int) < (m : Int)) = true := by go_num
    have hwr : IntKind.i64.wrap ((j : Int) + 1) = (j : Int) + 1 := by rw [IntKind.wrap_i64]; omega
    have hwl : IntKind.i64.wrap ((line : Int) + (j : Int)) = (line : Int) + (j : Int) := by rw [IntKind.wrap_i64]; omega
    have hg0 := (HB.out.only (O2.out.trans0 ON.out) (by simp)).cell 0
    rw [H0.out] at hg0
    go_wp2_with fail
    refine (HLD.out j wr (HD.out.only0 (O2.out.trans0 ON.out))).mono ?_
    rintro r w3 ⟨A1, n1, c1, x1, rfl, hb1, hn1, o1⟩
    have HB1 := hq9 hb1
    have O1 := hq9 (ON.out.trans0 o1)
    have HO1 := hq9 (own_only HO.out o1 (by simp))
    have HST := hq9 (chunk_succ (bytesAt D) line j)
    have hl1 : n1 = (bytesAt D (line + j)).length := hb1.len.symm
    have HL1 := hq9 hl1
    clear hb1 o1 hl1
    go_wp2_with (at_builtin; obtain ⟨A8, c8, w8, hr8, hw8, hs8, on8⟩ := append_own (P := Tryz.prog) w3 O1.out 71 71 5 i0 _ 1 Tryz.underlying71 HI0.out HZ0.out HZ1.out HZ2.out rfl _ N _ HO1.out A1 n1 c1 ((bytesAt D (line + j)).map Go.Proofs.FuMem.B) HB1.out one_B (by unfold maxLen; have := HNL.out; omega) (by have := HNL.out; omega); rw [← List.map_append, ← HST.out] at hw8; have H8 := hq9 hw8; have N8 := hq9 on8; clear hw8 hs8 on8; refine wpList_append_run _ rfl (.tmp 42) (.tmp 43) 71 rfl _ _ rfl rfl _ _ hr8 ?_)
    go_roundw
    case rel => exact ⟨j + 1, N + n1, c8, A8, congrArg (Value.int .i64) (by omega), rfl, by omega, by rw [HST.out, List.length_append, ← HN.out, ← HL1.out], H8.out, N8.out⟩
    case measure => simp only [intOf]; omega
   ·obtain rfl : m = j := by omega
    have q1 : decide ((m : Int) < (m : Int)) = false := by simp
    have ON3 := hq9 (O2.out.trans0 ON.out)
    have BR3 := hq9 (BR2.out.only ON.out (by simp))
    have BB3 := hq9 (BB2.out.only ON.out (by simp))
    have hNl : N = l.length := by rw [HLL.out]; exact HN.out
    have HBS := hq9 (show Bs wr Ao l.length l from by rw [← hNl, HLL.out]; exact Sl.of_own HO.out)
    have HCC := hq9 (show l.length ≤ co from by rw [← hNl]; exact own_le HO.out)
    subst hNl
    clear HN HNL HO
    obtain ⟨b, hbd⟩ : ∃ b, b = dec l := ⟨_, rfl⟩
    obtain ⟨rd, hrd⟩ : ∃ p, p = decide (reads l) := ⟨_, rfl⟩
    rw [← hbd, ← hrd] at HDC
    have HRD := hq9 hrd
    have HBD := hq9 hbd
    clear hrd hbd
    unfold blockOf at HDC
    obtain ⟨kb, hkb⟩ : ∃ s : ByteArray, s = ⟨b.key.toArray⟩ := ⟨_, rfl⟩
    obtain ⟨vb, hvb⟩ : ∃ s : ByteArray, s = ⟨b.val.toArray⟩ := ⟨_, rfl⟩
    rw [← hkb, ← hvb] at HDC
    have HKB := hq9 hkb
    have HVB := hq9 hvb
    clear hkb hvb
    go_wp2_with fail
    refine (HDC.out Ao co wr HBS.out HCC.out).mono ?_
    rintro r w4 ⟨rfl, o4⟩
    have O4 := hq9 (ON3.out.trans0 o4)
    have BR4 := hq9 (BR3.out.only o4 (by simp))
    have BB4 := hq9 (BB3.out.only o4 (by simp))
    clear o4
    have BK := hq9 (Blk.new w4 282 #[.int .i64 b.cls, .int .i64 b.kind, .int .u64 b.id, .int .u64 b.ver, .int .u64 b.ep, .string kb, .string vb])
    have ok := (Only.refl [] w4).alloc (.cells #[.int .i64 b.cls, .int .i64 b.kind, .int .u64 b.id, .int .u64 b.ver, .int .u64 b.ep, .string kb, .string vb] 282)
    have O5 := hq9 (O4.out.trans0 ok)
    have BR5 := hq9 (BR4.out.only ok (by simp))
    have BB5 := hq9 (BB4.out.only ok (by simp))
    clear ok
    cases rd with
    | false =>
     have HA := hq9 (show ans = .agg #[.int .i64 line, .bool false, .int .i64 c, .int .i64 k, .int .u64 0, .int .u64 0, .int .u64 0, .string ⟨#[]⟩, .string ⟨#[]⟩] by rw [HFV.out, if_neg (fun h => by have := HRD.out; rw [decide_eq_true h.2] at this; cases this)])
     have z0 := BB5.out.cell 0
     have z1 := BB5.out.cell 1
     have z2 := BB5.out.cell 2
     have z3 := BB5.out.cell 3
     have z4 := BB5.out.cell 4
     have z5 := BB5.out.cell 5
     have z6 := BB5.out.cell 6
     have z7 := BB5.out.cell 7
     have z8 := BB5.out.cell 8
     have r0 := BR5.out.cell 0
     have r1 := BR5.out.cell 1
     have r2 := BR5.out.cell 2
     have r3 := BR5.out.cell 3
     have r4 := BR5.out.cell 4
     have r5 := BR5.out.cell 5
     have r6 := BR5.out.cell 6
     have r7 := BR5.out.cell 7
     have r8 := BR5.out.cell 8
     have s0 := BR5.out.frozen 0
     have s1 := BR5.out.frozen 1
     have s2 := BR5.out.frozen 2
     have s3 := BR5.out.frozen 3
     have s4 := BR5.out.frozen 4
     have s5 := BR5.out.frozen 5
     have s6 := BR5.out.frozen 6
     have s7 := BR5.out.frozen 7
     have s8 := BR5.out.frozen 8
     have FILL := hq9 (Blk.fill9 BR5.out (.int .i64 line) (.bool false) (.int .i64 c) (.int .i64 k) (.int .u64 0) (.int .u64 0) (.int .u64 0) (.string ⟨#[]⟩) (.string ⟨#[]⟩))
     go_wp2_with fail
     generalize (((((((((World.setCell _ _ _).setCell _ _).setCell _ _).setCell _ _).setCell _ _).setCell _ _).setCell _ _).setCell _ _).setCell _ _) = w20 at *
     go_wp2
     refine bodyPost_ret (results_cell_row rfl _ _ w.heap.size 339 _ _ _ rfl FILL.out.1 Tryz.underlying339 rfl (by kernel_rfl)) rfl ⟨by rw [HA.out], O5.out.trans FILL.out.2 (by simp)⟩
    | true =>
     have HA := hq9 (show ans = .agg #[.int .i64 line, .bool true, .int .i64 b.cls, .int .i64 b.kind, .int .u64 b.id, .int .u64 b.ver, .int .u64 b.ep, .string kb, .string vb] by rw [HFV.out, if_pos ⟨by first | trivial | rfl, by have := HRD.out; simpa using this.symm⟩, ← HBD.out, HKB.out, HVB.out]; rfl)
     have z0 := BK.out.cell 0
     have z1 := BK.out.cell 1
     have z2 := BK.out.cell 2
     have z3 := BK.out.cell 3
     have z4 := BK.out.cell 4
     have z5 := BK.out.cell 5
     have z6 := BK.out.cell 6
     have r0 := BR5.out.cell 0
     have r1 := BR5.out.cell 1
     have r2 := BR5.out.cell 2
     have r3 := BR5.out.cell 3
     have r4 := BR5.out.cell 4
     have r5 := BR5.out.cell 5
     have r6 := BR5.out.cell 6
     have r7 := BR5.out.cell 7
     have r8 := BR5.out.cell 8
     have s0 := BR5.out.frozen 0
     have s1 := BR5.out.frozen 1
     have s2 := BR5.out.frozen 2
     have s3 := BR5.out.frozen 3
     have s4 := BR5.out.frozen 4
     have s5 := BR5.out.frozen 5
     have s6 := BR5.out.frozen 6
     have s7 := BR5.out.frozen 7
     have s8 := BR5.out.frozen 8
     have FILL := hq9 (Blk.fill9 BR5.out (.int .i64 line) (.bool true) (.int .i64 b.cls) (.int .i64 b.kind) (.int .u64 b.id) (.int .u64 b.ver) (.int .u64 b.ep) (.string kb) (.string vb))
     go_wp2_with fail
     generalize (((((((((World.setCell _ _ _).setCell _ _).setCell _ _).setCell _ _).setCell _ _).setCell _ _).setCell _ _).setCell _ _).setCell _ _) = w20 at *
     go_wp2
     refine bodyPost_ret (results_cell_row rfl _ _ w.heap.size 339 _ _ _ rfl FILL.out.1 Tryz.underlying339 rfl (by kernel_rfl)) rfl ⟨by rw [HA.out], O5.out.trans FILL.out.2 (by simp)⟩
end Go.Proofs.YtlggichakafkiaaGreat
namespace Go.Proofs.FuMem
open Go
section
variable {P : Program} {md : Region.Mode} {ops : Array Oper} {C : World → Prop}
def headQ (P : Program) (md : Region.Mode) (ops : Array Oper) (C : World → Prop) (n : Nat) (L : Array Bool → Act → Prop) : Nat → Array Bool → Act → Prop
 | 0, l, a => L l a
 | f + 1, l, a => Region.ready md ops l ≠ [] ∧ ∀ i ∈ Region.ready md ops l, i < n ∧ qOp P ops C i (headQ P md ops C n L f (l.setIfInBounds i true)) a
theorem headQ_any {n g : Nat} {L : Array Bool → Act → Prop} {Q : Exit → Act → World → Prop} (hL : ∀ l a w, C w → L l a → wpAny P md ops Q g l a w) :
  ∀ (f : Nat) (l : Array Bool) (a : Act) (w : World), C w → headQ P md ops C n L f l a → wpAny P md ops Q (f + g) l a w
 | 0, l, a, w, hC, h => by rw [Nat.zero_add]; exact hL _ _ _ hC h
 | f + 1, l, a, w, hC, h => by
  rw [Nat.add_right_comm]
  exact ⟨fun h0 => absurd h0 h.1, fun i hi => wpOp_of_qOp hC (fun a' w' hC' h' => headQ_any hL f _ a' w' hC' h') (h.2 i hi).2⟩
theorem headQ_first {n i : Nat} {oi : Oper} {v : Value} {L : Array Bool → Act → Prop} (hi : ops[i]? = some oi) (hsel : ∀ (j : Nat) (o : Oper) cs b, ops[j]? = some o → o.op ≠ .select cs b)
  (hs : Region.sinkB md ops n = true) (hc : Region.chainB md ops n = true) (hn : n < ops.size) (hin : i < n) (hdone : ∀ l a, L l a → ∀ j ∈ Region.ready md ops l, n ≤ j) :
  ∀ (f : Nat) (l : Array Bool) (a : Act), HeadInv md ops n l →
   (∀ j oj, ops[j]? = some oj → j ≠ i → l.getD j true = false → (∀ e ∈ oj.after, Region.binds md e = true → e.on ≠ i) → oi.apart ops oj = true) →
   i ∈ Region.ready md ops l → YieldsIn P ops C oi v a → headQ P md ops C n L f (l.setIfInBounds i true) (a.put oi.dst v) → headQ P md ops C n L (f + 1) l a := by
 intro f
 induction f with
 | zero =>
  intro l a inv _ hr hy H
  have hun := (mem_ready.1 hr).1
  refine ⟨List.ne_nil_of_mem hr, fun j hj => ?_⟩
  have hjn : j < n := Nat.lt_of_not_le fun h => tail_waits hs hc hn inv _ i rfl hin hun j h hj
  refine ⟨hjn, ?_⟩
  by_cases e : j = i
  ·subst e
   exact hy.qOp hi H
  ·have := hdone _ _ H j (ready_mono hj e)
   omega
 | succ f ih =>
  intro l a inv hfree hr hy H
  have hun := (mem_ready.1 hr).1
  refine ⟨List.ne_nil_of_mem hr, fun j hj => ?_⟩
  have hjn : j < n := Nat.lt_of_not_le fun h => tail_waits hs hc hn inv _ i rfl hin hun j h hj
  refine ⟨hjn, ?_⟩
  by_cases e : j = i
  ·subst e
   exact hy.qOp hi H
  ·obtain ⟨hjun, oj, hoj, hall⟩ := mem_ready.1 hj
   have hnot : ∀ e ∈ oj.after, Region.binds md e = true → e.on ≠ i := fun e' he hb heq => by
    have h1 := hall e' he hb
    rw [heq, getD_both hun] at h1
    cases h1
   have h2 := qOp_put hoj (hfree j oj hoj e hjun hnot) (fun cs b => hsel i oi cs b hi) (fun cs b => hsel j oj cs b hoj) hy (H.2 j (ready_mono hj e)).2
   refine qOp_mono (fun a' h3 => ih (l.setIfInBounds j true) a' (inv.set hj hjn) (fun k ok hk hki hku hno => ?_) (ready_mono hr (Ne.symm e)) h3.1 (by rw [Array.setIfInBounds_comm _ _ e]; exact h3.2)) h2
   refine hfree k ok hk hki ?_ hno
   by_cases hjk : j = k
   ·subst hjk
    exact hjun
   ·rwa [getD_set_ne true hjk] at hku
theorem headQ_lex {n g : Nat} {Lq : Act → Prop} (hsel : Region.noSelect ops = true) (hs : Region.sinkB md ops n = true) (hc : Region.chainB md ops n = true) (hn : n < ops.size) :
  ∀ (l : List Oper) (k : Nat) (b : Array Bool) (a : Act), (∀ j, j < l.length → l[j]? = ops[k + j]?) → k + l.length = n → HeadInv md ops n b → Region.lexHead md ops g l.length k b = true → wpQuiet P ops C Lq l a →
   headQ P md ops C n (fun b' a' => Region.seqB md ops g n b' = true ∧ Lq a') l.length b a
 | [], k, b, a, _, hk, _, hB, h => by
  obtain rfl : k = n := by simpa using hk
  exact ⟨by simpa [Region.lexHead] using hB, h⟩
 | o :: l, k, b, a, hl, hk, inv, hB, h => by
  have h0 : ops[k]? = some o := by simpa using (hl 0 (by simp)).symm
  simp only [List.length_cons, Region.lexHead, Bool.and_eq_true] at hB
  obtain ⟨⟨hr, hf⟩, hB'⟩ := hB
  have hkn : k < n := by simp only [List.length_cons] at hk; omega
  have hr' : k ∈ Region.ready md ops b := by simpa using hr
  have hst : qOp P ops C k (wpQuiet P ops C Lq l) a := by unfold qOp; simp only [h0]; exact h
  obtain ⟨v, hy, hK⟩ := yieldsIn_of_qOp h0 hst
  exact headQ_first h0 (Region.noSelect_spec hsel) hs hc hn hkn (fun b' a' hL => seqB_ready hL.1) l.length b a inv (Region.free_spec h0 hf) hr' hy
   (headQ_lex hsel hs hc hn l (k + 1) _ _ (fun j hj => by have := hl (j + 1) (by simp; omega); simpa [Nat.add_assoc, Nat.add_comm 1 j] using this) (by simp only [List.length_cons] at hk; omega) (inv.set hr' hkn) hB' hK)
end
theorem wp_region_later_tail {P : Program} {id : Nat} {Q : Exit → Act → World → Prop} {a : Act} (w : World) {l : List Oper} (n : Nat) (hm : P.follows .mixedOrders = true) (hB : Region.lexTailB .any l.toArray n = true)
  (h : wpQuiet P l.toArray (fun w' => ∃ p : Later w, w' = p.w) (fun a' => ∀ w', (∃ p : Later w, w' = p.w) → wpList P l.toArray Q (l.drop n) a' w') (l.take n) a) : (Code.region id l.toArray true).wp P Q a w := by
 simp only [Region.lexTailB, Bool.and_eq_true, decide_eq_true_eq] at hB
 obtain ⟨⟨⟨⟨hsel, hn⟩, hs⟩, hc⟩, hlex⟩ := hB
 have hn' : n < l.length := by simpa using hn
 have htl : (l.take n).length = n := by simp; omega
 have hdl : (l.drop n).length = l.toArray.size - n := by simp
 have inv0 : HeadInv .any l.toArray n (Array.replicate l.toArray.size false) :=
  ⟨by simp, fun j oj _ hl => (by rw [getD_replicate_false] at hl; cases hl), fun t _ ht => getD_in (by simpa using ht) (getD_replicate_false _ _)⟩
 have H := headQ_lex (md := .any) (g := l.toArray.size - n) hsel hs hc hn (l.take n) 0 _ a (fun j hj => by
  have hj' : j < n := by rw [htl] at hj; exact hj
  simp [hj']) (by simpa using htl) inv0 (by rw [htl]; exact hlex) h
 refine wp_region_any hm ?_
 have := headQ_any (Q := Q) (g := l.toArray.size - n) (fun b a' w' hC hL => by
  have := wpAny_of_seq (md := .any) (Q' := Q) (l.drop n) n b a' w' (fun j => by simp [List.getElem?_drop]) (by rw [hdl]; exact hL.1) (hL.2 w' hC)
  rwa [hdl] at this) _ _ _ w.drew ⟨⟨w.drew, (Only.refl _ _).drew⟩, rfl⟩ H
 rw [htl, show n + (l.toArray.size - n) = l.toArray.size by omega] at this
 exact this
end Go.Proofs.FuMem
namespace Go.Proofs.YtlggichakafkiaaGreat
open Go.BigFrame Go.RowKit Go.Proofs.FuMem Go.Proofs.FuTop Go.Proofs.FuNvm Go.Proofs.FuPool Go.Proofs.FuClk Go.Proofs.FuGeom
set_option maxRecDepth 100000
def newS (n e N : Nat) : ArS := ⟨0, newPool (slabsN N), 1, List.replicate n 0, newClk n e, [], [], List.replicate 4 [], [], 0, 0, []⟩
theorem slabs_same (N : Nat) : slabsOf (N : Int) = (slabsN N : Int) := by
 unfold slabsOf slabsN
 by_cases h1 : N < 10
 ·rw [if_pos h1, if_pos (by omega)]; rfl
 ·rw [if_neg h1, if_neg (by omega)]
  split <;> omega
set_option maxHeartbeats 2000000 in
theorem arena_made (gd cb cap : Nat) (D : Dev) (n e : Nat) (w : World) (hd : DevAt w gd cb cap D) (h10 : 10 ≤ D.lines.length) (h1 : 1 ≤ n) (h4 : n ≤ 4) (he : e ≤ 1152921504606846976) :
  Calls Tryz.prog 97 #[pt gd, .int .i64 n, .int .u64 e] w fun e' w' => ∃ B, e' = .returned (.tuple #[pt B.a, .int .i64 0]) ∧ ArAt w' gd B (newS n e D.lines.length) ∧ Only [] w w' ∧ ∀ b ∈ (arFs B).flatten, w.heap.size ≤ b := by
 have HD := hq9 hd
 have HR := hq9 (rdr_New n w h1 h4)
 have HC := hq9 (fun w => clk_New n (e : Int) w h1 h4 (by omega) (by omega))
 have hN := hd.few
 obtain ⟨N, hNe⟩ : ∃ N, N = D.lines.length := ⟨_, rfl⟩
 have HLN := hq9 (fun w (h : DevAt w gd cb cap D) => nvm_Lines gd cb cap D w h)
 rw [← hNe] at HLN h10 hN ⊢
 have HS := hq9 (fun w => geom_Slabs (N : Int) w)
 rw [slabs_same] at HS
 have hs1 : 1 ≤ slabsN N ∧ slabsN N ≤ 32 := by unfold slabsN; split <;> omega
 have HP := hq9 (fun w => pool_New (slabsN N) w hs1.1 hs1.2)
 unfold newS
 generalize slabsN N = m at *
 have q1 : decide ((N : Int) < 10) = false := by go_num
 unfold pt
 clear hd hNe h1 h4
 go_enter Tryz.func97, Tryz.ntmps97
 go_wp2_with fail
 refine HR.out.mono ?_
 rintro e' w1 ⟨r, rh, rfl, r1, o1, n1, n2⟩
 have R1 := hq9 r1
 have O1 := hq9 o1
 have N1 := hq9 (And.intro n1 n2)
 clear r1 o1 n1 n2
 go_wp2_with fail
 refine (HLN.out w1 (HD.out.only0 O1.out)).mono ?_
 rintro e' w' ⟨rfl, rfl⟩
 go_wp2_with fail
 refine (HC.out w1).mono ?_
 rintro e' w2 ⟨k, ko, rfl, r2, o2, n1, n2⟩
 have R2 := hq9 r2
 have O2 := hq9 o2
 have N2 := hq9 (And.intro n1 n2)
 clear r2 o2 n1 n2
 go_wp2_with fail
 refine (HLN.out w2 ((HD.out.only0 O1.out).only0 O2.out)).mono ?_
 rintro e' w' ⟨rfl, rfl⟩
 go_wp2_with fail
 refine (HS.out w2).mono ?_
 rintro e' w' ⟨rfl, rfl⟩
 go_wp2_with fail
 refine (HP.out w2).mono ?_
 rintro e' w3 ⟨p, ps, rfl, r3, o3, n1, n2⟩
 have R3 := hq9 r3
 have O3 := hq9 o3
 have N3 := hq9 (And.intro n1 n2)
 clear r3 o3 n1 n2
 go_wp2_with fail
 have B4 := hq9 (Blk.new w3 210 #[pt gd, .int .u32 0, .int .i32 0, .int .u32 0])
 have O4 := hq9 ((Only.refl [] w3).alloc (.cells #[pt gd, .int .u32 0, .int .i32 0, .int .u32 0] 210))
 unfold pt at B4 O4
 generalize (w3.alloc (.cells #[.pointer (some ⟨gd, 0, none⟩), .int .u32 0, .int .i32 0, .int .u32 0] 210)) = w4 at *
 refine (bag_New w4).mono ?_
 rintro e' w5 ⟨b, rfl, r5, o5, n5⟩
 have R5 := hq9 r5
 have O5 := hq9 o5
 have N5 := hq9 n5
 clear r5 o5 n5
 go_wp2_with fail
 refine (tab_New w5).mono ?_
 rintro e' w6 ⟨t, ts, rfl, r6, o6, n6⟩
 have R6 := hq9 r6
 have O6 := hq9 o6
 have N6 := hq9 n6
 clear r6 o6 n6
 go_wp2_with fail
 refine (order_New w6).mono ?_
 rintro e' w7 ⟨o, rfl, r7, o7, n7⟩
 have R7 := hq9 r7
 have O7 := hq9 o7
 have N7 := hq9 n7
 clear r7 o7 n7
 go_wp2_with fail
 refine (line_New w7).mono ?_
 rintro e' w8 ⟨l, rfl, r8, o8, n8⟩
 have R8 := hq9 r8
 have O8 := hq9 o8
 have N8 := hq9 n8
 clear r8 o8 n8
 go_wp2
 go_ret2
 have nd2 : ∀ {a b : Nat}, a ≠ b → [a, b].Nodup := fun h => by simp [h]
 have bd2 : ∀ {a b n : Nat}, n ≤ a ∧ n ≤ b → ∀ c ∈ [a, b], n ≤ c := fun h c hc => by
  simp at hc
  rcases hc with rfl | rfl
  ·exact h.1
  ·exact h.2
 have bd1 : ∀ {a n : Nat}, n ≤ a → ∀ c ∈ [a], n ≤ c := fun h c hc => by rw [List.mem_singleton.1 hc]; exact h
 have nd1 : ∀ {a : Nat}, [a].Nodup := by simp
 have W0 : Whole [] w [] ∧ (∀ X ∈ ([] : List Comp), X.Fit) ∧ w.heap.size ≤ w.heap.size ∧ ∀ b ∈ ([] : List (List Nat)).flatten, w.heap.size ≤ b := ⟨Whole.nil w, by simp, Nat.le_refl _, by simp⟩
 have W1 := Whole.push2 W0 (rdrC_fit r rh 1 (List.replicate n 0)) O1.out ⟨rfl, R1.out⟩ (nd2 R1.out.ne) (bd2 N1.out)
 have W2 := Whole.push2 W1 (clkC_fit k ko (newClk n e)) O2.out ⟨rfl, R2.out⟩ (nd2 R2.out.ne) (bd2 N2.out)
 have W3 := Whole.push2 W2 (poolC_fit p ps (newPool m)) O3.out ⟨rfl, R3.out⟩ (nd2 R3.out.ne) (bd2 N3.out)
 have W4 := Whole.push2 W3 (blkC_fit w3.heap.size 210 #[pt gd, .int .u32 0, .int .i32 0, .int .u32 0]) O4.out ⟨rfl, B4.out⟩ nd1 (bd1 (Nat.le_refl _))
 have W5 := Whole.push2 W4 (bagC_fit b (.slice none 0 0) []) O5.out ⟨rfl, R5.out⟩ nd1 (bd1 N5.out)
 have W6 := Whole.push2 W5 (tabC_fit t ts []) O6.out ⟨rfl, R6.out⟩ R6.out.nd N6.out
 have W7 := Whole.push2 W6 (ordC_fit o (List.replicate 4 (.slice none 0 0)) (List.replicate 4 [])) O7.out ⟨rfl, R7.out⟩ nd1 (bd1 N7.out)
 have W8 := Whole.push2 W7 (lineC_fit l (.slice none 0 0) []) O8.out ⟨rfl, R8.out⟩ nd1 (bd1 N8.out)
 have hal : ∀ cs, Only [] w8 (w8.alloc (.cells cs 198)) := fun cs => (Only.refl [] w8).alloc _
 have W9 := Whole.push2 W8 (blkC_fit w8.heap.size 198 #[pt w3.heap.size, pt p, pt r, pt k, pt b, pt t, pt o, pt l, .int .u64 0, .int .u64 0, .slice none 0 0]) (hal _) ⟨rfl, Blk.new _ _ _⟩ nd1 (bd1 (Nat.le_refl _))
 have WA := Whole.push2 W9 (rowC_fit 182 7 (.slice none 0 0) []) (Only.refl [] _) ⟨rfl, RowS.nil _ _ _⟩ (by simp [Value.ownBlock]) (by simp [Value.ownBlock])
 have OO := ((((((((O1.out.trans0 O2.out).trans0 O3.out).trans0 O4.out).trans0 O5.out).trans0 O6.out).trans0 O7.out).trans0 O8.out)).trans0 (hal #[pt w3.heap.size, pt p, pt r, pt k, pt b, pt t, pt o, pt l, .int .u64 0, .int .u64 0, .slice none 0 0])
 exact ⟨⟨w8.heap.size, w3.heap.size, p, ps, r, rh, k, ko, b, .slice none 0 0, t, ts, o, List.replicate 4 (.slice none 0 0), l, .slice none 0 0, .slice none 0 0⟩, rfl, WA.1, OO, WA.2.2.2⟩
end Go.Proofs.YtlggichakafkiaaGreat
namespace Go.Proofs.YtlggichakafkiaaGreat
open Go.BigFrame Go.RowKit Go.Proofs.FuMem Go.Proofs.FuTop Go.Proofs.FuNvm Go.Proofs.FuCode Go.Proofs.FuBlock Go.Proofs.FuClass
set_option maxRecDepth 100000
theorem foundRec : ∃ i z, Tryz.prog.info? 339 = some i ∧ i.zero = some z ∧ i.size = 9 ∧ z.cells.size = 9 ∧ i.bytes ≤ 200 := ⟨_, _, rfl, rfl, rfl, rfl, by decide⟩
theorem push_found {w : World} {v : Value} {L : List FuTop.Found} (h : RowS 339 9 w v (L.map foundC)) (hn : L.length ≤ 1000000) {A : Option Addr} {x : FuTop.Found} (hr : Sl w A 9 (foundC x)) :
  ∃ v' w', (Builtin.append_ #[227, 227] 227 #[v, .slice A 1 1]).run Tryz.prog w = .ok v' w' ∧ RowS 339 9 w' v' ((L ++ [x]).map foundC) ∧ Only v.ownBlock.toList w w' ∧ (v'.ownBlock = v.ownBlock ∨ v'.ownBlock = some w.heap.size) := by
 obtain ⟨i, z, hi, hz, hs, hzs, hb⟩ := foundRec
 have := h.push (P := Tryz.prog) 227 227 i z i.bytes Tryz.underlying227 hi hz hs rfl hzs (by decide) A 1 (foundC x) hr (foundC_one x) (by rw [List.length_map]; unfold maxLen; omega) (by
  rw [List.length_map]
  calc (L.length + 1) * i.bytes ≤ 1000001 * 200 := Nat.mul_le_mul (by omega) hb
   _ ≤ _ := by decide)
 simpa using this
set_option maxHeartbeats 3000000 in
theorem rv_scan (g gd cb cap e nx : Nat) (fv kv sv : Value) (done why : Int) (L : List FuTop.Found) (D : Dev) (w : World) (hb : Blk w g 229 (rvHead gd 1 e nx fv kv done sv why)) (hr : RowS 339 9 w fv (L.map foundC)) (hd : DevAt w gd cb cap D)
  (hne : ∀ b, fv.ownBlock = some b → b ≠ g ∧ b ≠ gd ∧ b ≠ cb) (hgd : g ≠ gd ∧ g ≠ cb) (hn : L.length ≤ 1000) (hnx : nx ≤ 1000) :
  Calls Tryz.prog 158 #[.pointer (some ⟨g, 0, none⟩)] w fun r w' => r = .returned (.int .i64 0) ∧ ∃ fv' : Value, RowS 339 9 w' fv' ((L ++ (scan1 (bytesAt D) (2 + nx)).toList).map foundC) ∧
   Blk w' g 229 (if 8 * slabsN D.lines.length ≤ nx + 1 then rvHead gd 2 e 0 fv' kv done sv why else rvHead gd 1 e ((nx : Int) + 1) fv' kv done sv why) ∧ Only (g :: fv.ownBlock.toList) w w' ∧ (∀ b, fv'.ownBlock = some b → fv.ownBlock = some b ∨ w.heap.size ≤ b) := by
 have HB := hq9 hb
 have HR := hq9 hr
 have HD := hq9 hd
 have HNE := hq9 (And.intro hne hgd)
 have HLD := hq9 (show ∀ (w : World), DevAt w gd cb cap D → Calls Tryz.prog 40 #[.pointer (some ⟨gd, 0, none⟩), .int .i64 (2 + (nx : Int))] w fun e w' => ∃ (A : Option Addr) (n c : Nat) (x : Int), e = .returned (.tuple #[.slice A n c, .int .i64 x]) ∧ Bs w' A n (bytesAt D (2 + nx)) ∧ n ≤ 64 ∧ Only [] w w' from fun w h => by
  have := nvm_Load_any gd cb cap D (2 + nx) w h
  rwa [Int.natCast_add] at this)
 have c0 : w.cell? ⟨g, 0, none⟩ = some (.pointer (some ⟨gd, 0, none⟩)) := hb.cell 0
 have c4 : w.cell? ⟨g, 4, none⟩ = some (.int .i64 nx) := hb.cell 4
 have wr1 : IntKind.i64.wrap (2 + (nx : Int)) = 2 + (nx : Int) := by rw [IntKind.wrap_i64]; omega
 have wr2 : IntKind.i64.wrap ((nx : Int) + 1) = (nx : Int) + 1 := by rw [IntKind.wrap_i64]; omega
 have HNL := hq9 (nvm_Lines gd cb cap D)
 have HSL := hq9 (fun w => geom_Slabs (D.lines.length : Int) w)
 rw [slabs_same] at HSL
 have hsm : slabsN D.lines.length ≤ 32 := by unfold slabsN; split <;> omega
 have HLK := hq9 (fun w (hb : Blk w g 229 (rvHead gd 1 e nx fv kv done sv why)) hd => rv_look g gd cb cap (2 + nx) (((bytesAt D (2 + nx)).getD 1 0).toNat : Nat) (((bytesAt D (2 + nx)).getD 2 0).toNat : Nat) D _ w hb rfl hd (by have := ((bytesAt D (2 + nx)).getD 1 0).toNat_lt; omega) (by omega))
 rw [Int.natCast_add] at HLK
 have HS1 := hq9 (show scan1 (bytesAt D) (2 + nx) = if isHead (bytesAt D (2 + nx)) ∧ ((bytesAt D (2 + nx)).getD 2 0).toNat ≠ 0 then some (FuTop.look (bytesAt D) (2 + nx) ((bytesAt D (2 + nx)).getD 1 0).toNat ((bytesAt D (2 + nx)).getD 2 0).toNat) else none from rfl)
 have HHD := hq9 (fun A n c w hb (hn : n ≤ 1000000) => block_Head A n c (bytesAt D (2 + nx)) w hb hn)
 unfold FuBlock.headOf at HHD
 generalize FuTop.look (bytesAt D) (2 + nx) ((bytesAt D (2 + nx)).getD 1 0).toNat ((bytesAt D (2 + nx)).getD 2 0).toNat = lk at *
 generalize scan1 (bytesAt D) (2 + nx) = sc at *
 generalize ((bytesAt D (2 + nx)).getD 1 0).toNat = hc at *
 generalize ((bytesAt D (2 + nx)).getD 2 0).toNat = hk at *
 generalize bytesAt D (2 + nx) = bl at *
 generalize D.lines.length = N at *
 generalize slabsN N = sl at *
 clear hb hr hd hne hgd
 by_cases hh : isHead bl
 ·rw [if_pos hh] at HHD
  by_cases hk0 : hk = 0
  ·have HSC := hq9 (show sc = none by rw [HS1.out, if_neg (fun h => h.2 hk0)])
   subst hk0
   clear hh
   go_enter Tryz.func158, Tryz.ntmps158
   go_wp2_with fail
   refine (HLD.out w HD.out).mono ?_
   rintro r w1 ⟨A1, n1, c1, x1, rfl, hb1, hn1, o1⟩
   have HH1 := hq9 (HHD.out A1 n1 c1 w1 hb1 (by omega))
   have O1 := hq9 o1
   clear hb1 o1 c0 c4
   go_wp2_with fail
   refine HH1.out.mono ?_
   rintro r w2 ⟨rfl, o2⟩
   have O2 := hq9 (O1.out.trans0 o2)
   clear o2 HH1
   have FRE := hq9 (show ∀ b, fv.ownBlock = some b → fv.ownBlock = some b ∨ w.heap.size ≤ b from fun b hb => .inl hb)
   have B5 := hq9 (HB.out.only O2.out (by simp))
   have R5 := hq9 (HR.out.only0 O2.out)
   have O5 := hq9 (O2.out.mono (T := g :: fv.ownBlock.toList) (by simp))
   have HDN := hq9 (show gd ∉ g :: fv.ownBlock.toList ∧ cb ∉ g :: fv.ownBlock.toList from ⟨fun h => by
    rcases List.mem_cons.1 h with h | h
    ·exact HNE.out.2.1 h.symm
    ·exact (HNE.out.1 gd (own_mem.1 h)).2.1 rfl, fun h => by
    rcases List.mem_cons.1 h with h | h
    ·exact HNE.out.2.2 h.symm
    ·exact (HNE.out.1 cb (own_mem.1 h)).2.2 rfl⟩)
   have k4 : w2.cell? ⟨g, 4, none⟩ = some (.int .i64 nx) := B5.out.cell 4
   have f4 := B5.out.frozen 4
   have BY := hq9 (show Blk (w2.setCell ⟨g, 4, none⟩ (.int .i64 ((nx : Int) + 1))) g 229 (rvHead gd 1 e ((nx : Int) + 1) fv kv done sv why) from B5.out.set 4 (.int .i64 ((nx : Int) + 1)))
   have oy := (Only.refl [g] w2).setCell (p := ⟨g, 4, none⟩) (.inl (by simp)) (.int .i64 ((nx : Int) + 1))
   have RY := hq9 (R5.out.only oy (fun b hb h => by simp at h; exact ((fun b hb => (HNE.out.1 b hb).1) b hb) h))
   have OY := hq9 (O5.out.trans oy (fun b hb => .inl (by simp at hb; simp [hb])))
   have DY := hq9 ((HD.out.only (O5.out) HDN.out.1 HDN.out.2).only oy (by simpa using fun h => HNE.out.2.1 h.symm) (by simpa using fun h => HNE.out.2.2 h.symm))
   clear oy
   go_wp2_with fail
   clear k4 f4
   generalize (w2.setCell ⟨g, 4, none⟩ (.int .i64 ((nx : Int) + 1))) = wy at *
   have k0 : wy.cell? ⟨g, 0, none⟩ = some (.pointer (some ⟨gd, 0, none⟩)) := BY.out.cell 0
   have k4 : wy.cell? ⟨g, 4, none⟩ = some (.int .i64 ((nx : Int) + 1)) := BY.out.cell 4
   go_wp2_with fail
   refine wp_region_later wy (by kernel_rfl) (by kernel_rfl) ?_
   have fk0 := fun (p : Later wy) => Later.cell p k0
   have fk4 := fun (p : Later wy) => Later.cell p k4
   clear k0 k4
   have gl := fun (p : Later wy) => HNL.out p.w (DY.out.only0 p.only)
   have gs := fun (p : Later wy) => HSL.out p.w
   have wr3 : IntKind.i64.wrap ((sl : Int) * 8) = (sl : Int) * 8 := by rw [IntKind.wrap_i64]; omega
   repeat (go_big_quiet_step (fail))
   go_big_quiet_step (exact Calls.later_same (gl _))
   repeat (go_big_quiet_step (fail))
   go_big_quiet_step (exact Calls.later_same (gs _))
   repeat (go_big_quiet_step (fail))
   refine wpQuiet_nil ?_
   intro _ hw'
   obtain ⟨p, hw''⟩ := hw'
   subst hw''
   have opw := p.only
   clear fk0 fk4 gl gs
   generalize p.w = wz at *
   have BZ := hq9 (BY.out.only opw (by simp))
   have RZ := hq9 (RY.out.only0 opw)
   have OZ := hq9 (OY.out.trans0 opw)
   clear opw BY RY OY DY
   by_cases hge : 8 * sl ≤ nx + 1
   ·have q1 : decide ((nx : Int) + 1 ≥ (sl : Int) * 8) = true := by go_num
    have q1b : (sl : Int) * 8 ≤ (nx : Int) + 1 := by omega
    have HGE := hq9 hge
    go_wp2_with fail
    refine (rv_to g gd 1 2 e ((nx : Int) + 1) fv kv done sv why wz BZ.out).mono ?_
    rintro r wt ⟨rfl, bt, ot⟩
    have BT := hq9 bt
    have RT := hq9 (RZ.out.only ot (fun b hb h => by simp at h; exact ((fun b hb => (HNE.out.1 b hb).1) b hb) h))
    have OT := hq9 (OZ.out.trans ot (fun b hb => .inl (by simp at hb; simp [hb])))
    clear bt ot
    go_wp2
    go_ret
    exact ⟨rfl, fv, by rw [HSC.out]; simpa using RT.out, by first | exact BT.out | (rw [if_pos HGE.out]; exact BT.out), OT.out, FRE.out⟩
   ·have q1 : decide ((nx : Int) + 1 ≥ (sl : Int) * 8) = false := by go_num
    have q1b : ¬ (sl : Int) * 8 ≤ (nx : Int) + 1 := by omega
    have HGE := hq9 hge
    go_wp2
    go_ret
    exact ⟨rfl, fv, by rw [HSC.out]; simpa using RZ.out, by first | exact BZ.out | (rw [if_neg HGE.out]; exact BZ.out), OZ.out, FRE.out⟩
  ·have HSC := hq9 (show sc = some lk by rw [HS1.out, if_pos ⟨hh, hk0⟩])
   have g1 : ((hk : Int) != 0) = true := by simpa using hk0
   have g1b : ¬ (hk : Int) = 0 := by omega
   clear hh
   have HFV : Hid (foundV lk = .agg #[.int .i64 lk.line, .bool lk.good, .int .i64 lk.b.cls, .int .i64 lk.b.kind, .int .u64 lk.b.id, .int .u64 lk.b.ver, .int .u64 lk.b.ep, .string ⟨lk.b.key.toArray⟩, .string ⟨lk.b.val.toArray⟩]) := rfl
   have HFC : Hid (foundC lk = [.int .i64 lk.line, .bool lk.good, .int .i64 lk.b.cls, .int .i64 lk.b.kind, .int .u64 lk.b.id, .int .u64 lk.b.ver, .int .u64 lk.b.ep, .string ⟨lk.b.key.toArray⟩, .string ⟨lk.b.val.toArray⟩]) := rfl
   obtain ⟨kb, hkb⟩ : ∃ s : ByteArray, s = ⟨lk.b.key.toArray⟩ := ⟨_, rfl⟩
   obtain ⟨vb, hvb⟩ : ∃ s : ByteArray, s = ⟨lk.b.val.toArray⟩ := ⟨_, rfl⟩
   rw [← hkb, ← hvb] at HFV HFC
   rw [HFV.out] at HLK
   clear hkb hvb
   go_enter Tryz.func158, Tryz.ntmps158
   go_wp2_with fail
   refine (HLD.out w HD.out).mono ?_
   rintro r w1 ⟨A1, n1, c1, x1, rfl, hb1, hn1, o1⟩
   have HH1 := hq9 (HHD.out A1 n1 c1 w1 hb1 (by omega))
   have O1 := hq9 o1
   clear hb1 o1 c0 c4
   go_wp2_with fail
   refine HH1.out.mono ?_
   rintro r w2 ⟨rfl, o2⟩
   have O2 := hq9 (O1.out.trans0 o2)
   clear o2 HH1
   have HDN := hq9 (show gd ∉ g :: fv.ownBlock.toList ∧ cb ∉ g :: fv.ownBlock.toList from ⟨fun h => by
    rcases List.mem_cons.1 h with h | h
    ·exact HNE.out.2.1 h.symm
    ·exact (HNE.out.1 gd (own_mem.1 h)).2.1 rfl, fun h => by
    rcases List.mem_cons.1 h with h | h
    ·exact HNE.out.2.2 h.symm
    ·exact (HNE.out.1 cb (own_mem.1 h)).2.2 rfl⟩)
   have k0 : w2.drew.cell? ⟨g, 5, none⟩ = some fv := (HB.out.only O2.out (by simp)).cell 5
   have FACT := hq9 (show ∀ w3, Only [] w2.drew w3 → w3.cell? ⟨g, 5, none⟩ = some fv ∧ (w3.alloc (.cells #[.int .i64 lk.line, .bool lk.good, .int .i64 lk.b.cls, .int .i64 lk.b.kind, .int .u64 lk.b.id, .int .u64 lk.b.ver, .int .u64 lk.b.ep, .string kb, .string vb] 339)).cell? ⟨g, 5, none⟩ = some fv ∧ ∃ A5 n5 c5 w5, (Builtin.append_ #[227, 227] 227 #[fv, .slice (some ⟨w3.heap.size, 0, none⟩) 1 1]).run Tryz.prog (w3.alloc (.cells #[.int .i64 lk.line, .bool lk.good, .int .i64 lk.b.cls, .int .i64 lk.b.kind, .int .u64 lk.b.id, .int .u64 lk.b.ver, .int .u64 lk.b.ep, .string kb, .string vb] 339)) = .ok (.slice A5 n5 c5) w5 ∧ w5.cell? ⟨g, 5, none⟩ = some fv ∧ w5.frozen? ⟨g, 5, none⟩ = false ∧ Blk (w5.setCell ⟨g, 5, none⟩ (Value.slice A5 n5 c5)) g 229 (rvHead gd 1 e nx (.slice A5 n5 c5) kv done sv why) ∧ RowS 339 9 (w5.setCell ⟨g, 5, none⟩ (Value.slice A5 n5 c5)) (.slice A5 n5 c5) ((L ++ [lk]).map foundC) ∧ Only (g :: fv.ownBlock.toList) w (w5.setCell ⟨g, 5, none⟩ (Value.slice A5 n5 c5)) ∧ (∀ b, (Value.slice A5 n5 c5).ownBlock = some b → fv.ownBlock = some b ∨ w.heap.size ≤ b) ∧ (∀ b, (Value.slice A5 n5 c5).ownBlock = some b → b ≠ g) from fun w3 o3 => by
    have O3 := O2.out.trans0 ((Only.refl [] w2).drew.trans0 o3)
    have B3 := HB.out.only O3 (by simp)
    have R3 := HR.out.only0 O3
    have ok := (Only.refl [] w3).alloc (.cells #[.int .i64 lk.line, .bool lk.good, .int .i64 lk.b.cls, .int .i64 lk.b.kind, .int .u64 lk.b.id, .int .u64 lk.b.ver, .int .u64 lk.b.ep, .string kb, .string vb] 339)
    have R4 := R3.only0 ok
    have B4 := B3.only ok (by simp)
    obtain ⟨fv5, w5, hr5, r5, o5, l5⟩ := push_found (w := (w3.alloc (.cells #[.int .i64 lk.line, .bool lk.good, .int .i64 lk.b.cls, .int .i64 lk.b.kind, .int .u64 lk.b.id, .int .u64 lk.b.ver, .int .u64 lk.b.ep, .string kb, .string vb] 339))) (L := L) R4 (by omega) (A := some ⟨w3.heap.size, 0, none⟩) (x := lk) (by rw [HFC.out]; exact Sl.of_blk (Blk.new w3 339 #[.int .i64 lk.line, .bool lk.good, .int .i64 lk.b.cls, .int .i64 lk.b.kind, .int .u64 lk.b.id, .int .u64 lk.b.ver, .int .u64 lk.b.ep, .string kb, .string vb]) 0 rfl (by simp))
    have hg5 : g ∉ fv.ownBlock.toList := fun h => (HNE.out.1 g (own_mem.1 h)).1 rfl
    have B5 := B4.only o5 hg5
    have hsz : w.heap.size ≤ w3.heap.size := O3.size
    have hsz4 : (w3.alloc (.cells #[.int .i64 lk.line, .bool lk.good, .int .i64 lk.b.cls, .int .i64 lk.b.kind, .int .u64 lk.b.id, .int .u64 lk.b.ver, .int .u64 lk.b.ep, .string kb, .string vb] 339)).heap.size = w3.heap.size + 1 := by simp
    have hgl := HB.out.lt
    have own5 : ∀ b, fv5.ownBlock = some b → fv.ownBlock = some b ∨ b = w3.heap.size + 1 := fun b hb => by
     rcases l5 with h | h
     ·exact .inl (by rw [← h]; exact hb)
     ·rw [h] at hb
      have := Option.some.inj hb
      exact .inr (by omega)
    have ng5 : ∀ b, fv5.ownBlock = some b → b ≠ g := fun b hb => by
     rcases own5 b hb with h | h
     ·exact (HNE.out.1 b h).1
     ·omega
    have os := (Only.refl [g] w5).setCell (p := ⟨g, 5, none⟩) (.inl (by simp)) fv5
    have R6 := r5.only os (fun b hb h => by simp at h; exact (ng5 b hb) h)
    have O6 := (((O3.trans0 ok).mono (T := g :: fv.ownBlock.toList) (by simp)).trans o5 (fun b hb => .inl (List.mem_cons_of_mem _ hb))).trans os (fun b hb => .inl (by simp at hb; simp [hb]))
    obtain ⟨A5, c5, hv5, _, _⟩ := R6.slice
    subst hv5
    exact ⟨B3.cell 5, B4.cell 5, _, _, _, w5, hr5, B5.cell 5, B5.frozen 5, B5.set 5 _, R6, O6, fun b hb => (own5 b hb).imp id fun h => by omega, ng5⟩)
   have HW2 : Hid (Only [] w2 w2.drew) := (Only.refl _ _).drew
   go_wp2_with fail
   go_region_law
    (first
     | (go_simp; go_at_call 196; refine (HLK.out w2.drew (HB.out.only (O2.out.trans0 HW2.out) (by simp)) (HD.out.only0 (O2.out.trans0 HW2.out))).mono ?_; rintro r w3 ⟨rfl, o3⟩; obtain ⟨s0, s1, A5, n5, c5, w5, hr5, h5, f5, b6, r6, o6, fre, own⟩ := FACT.out w3 o3; have B6 := hq9 b6; have R6 := hq9 r6; have O6 := hq9 o6; have FRE := hq9 fre; have OWN := hq9 own; clear b6 r6 o6 fre own o3)
     | ((try rw [if_pos (by rfl)]); refine wp_append_run (.tmp 38) (.tmp 44) 227 rfl _ _ rfl rfl _ _ hr5 ?_))
   all_goals
    clear k0 s0 s1 h5 f5 hr5
    have k4 : (w5.setCell ⟨g, 5, none⟩ (Value.slice A5 n5 c5)).cell? ⟨g, 4, none⟩ = some (.int .i64 nx) := B6.out.cell 4
    have f4 := B6.out.frozen 4
    have BY := hq9 (show Blk ((w5.setCell ⟨g, 5, none⟩ (Value.slice A5 n5 c5)).setCell ⟨g, 4, none⟩ (.int .i64 ((nx : Int) + 1))) g 229 (rvHead gd 1 e ((nx : Int) + 1) (.slice A5 n5 c5) kv done sv why) from B6.out.set 4 (.int .i64 ((nx : Int) + 1)))
    have oy := (Only.refl [g] (w5.setCell ⟨g, 5, none⟩ (Value.slice A5 n5 c5))).setCell (p := ⟨g, 4, none⟩) (.inl (by simp)) (.int .i64 ((nx : Int) + 1))
    have RY := hq9 (R6.out.only oy (fun b hb h => by simp at h; exact (OWN.out b hb) h))
    have OY := hq9 (O6.out.trans oy (fun b hb => .inl (by simp at hb; simp [hb])))
    have DY := hq9 ((HD.out.only (O6.out) HDN.out.1 HDN.out.2).only oy (by simpa using fun h => HNE.out.2.1 h.symm) (by simpa using fun h => HNE.out.2.2 h.symm))
    clear oy
    go_wp2_with fail
    clear k4 f4
    generalize ((w5.setCell ⟨g, 5, none⟩ (Value.slice A5 n5 c5)).setCell ⟨g, 4, none⟩ (.int .i64 ((nx : Int) + 1))) = wy at *
    have k0 : wy.cell? ⟨g, 0, none⟩ = some (.pointer (some ⟨gd, 0, none⟩)) := BY.out.cell 0
    have k4 : wy.cell? ⟨g, 4, none⟩ = some (.int .i64 ((nx : Int) + 1)) := BY.out.cell 4
    go_wp2_with fail
    refine wp_region_later wy (by kernel_rfl) (by kernel_rfl) ?_
    have fk0 := fun (p : Later wy) => Later.cell p k0
    have fk4 := fun (p : Later wy) => Later.cell p k4
    clear k0 k4
    have gl := fun (p : Later wy) => HNL.out p.w (DY.out.only0 p.only)
    have gs := fun (p : Later wy) => HSL.out p.w
    have wr3 : IntKind.i64.wrap ((sl : Int) * 8) = (sl : Int) * 8 := by rw [IntKind.wrap_i64]; omega
    repeat (go_big_quiet_step (fail))
    go_big_quiet_step (exact Calls.later_same (gl _))
    repeat (go_big_quiet_step (fail))
    go_big_quiet_step (exact Calls.later_same (gs _))
    repeat (go_big_quiet_step (fail))
    refine wpQuiet_nil ?_
    intro _ hw'
    obtain ⟨p, hw''⟩ := hw'
    subst hw''
    have opw := p.only
    clear fk0 fk4 gl gs
    generalize p.w = wz at *
    have BZ := hq9 (BY.out.only opw (by simp))
    have RZ := hq9 (RY.out.only0 opw)
    have OZ := hq9 (OY.out.trans0 opw)
    clear opw BY RY OY DY
    by_cases hge : 8 * sl ≤ nx + 1
    ·have q1 : decide ((nx : Int) + 1 ≥ (sl : Int) * 8) = true := by go_num
     have q1b : (sl : Int) * 8 ≤ (nx : Int) + 1 := by omega
     have HGE := hq9 hge
     go_wp2_with fail
     refine (rv_to g gd 1 2 e ((nx : Int) + 1) (.slice A5 n5 c5) kv done sv why wz BZ.out).mono ?_
     rintro r wt ⟨rfl, bt, ot⟩
     have BT := hq9 bt
     have RT := hq9 (RZ.out.only ot (fun b hb h => by simp at h; exact (OWN.out b hb) h))
     have OT := hq9 (OZ.out.trans ot (fun b hb => .inl (by simp at hb; simp [hb])))
     clear bt ot
     go_wp2
     go_ret
     exact ⟨rfl, (.slice A5 n5 c5), by rw [HSC.out]; simpa using RT.out, by first | exact BT.out | (rw [if_pos HGE.out]; exact BT.out), OT.out, FRE.out⟩
    ·have q1 : decide ((nx : Int) + 1 ≥ (sl : Int) * 8) = false := by go_num
     have q1b : ¬ (sl : Int) * 8 ≤ (nx : Int) + 1 := by omega
     have HGE := hq9 hge
     go_wp2
     go_ret
     exact ⟨rfl, (.slice A5 n5 c5), by rw [HSC.out]; simpa using RZ.out, by first | exact BZ.out | (rw [if_neg HGE.out]; exact BZ.out), OZ.out, FRE.out⟩
 ·rw [if_neg hh] at HHD
  have HSC := hq9 (show sc = none by rw [HS1.out, if_neg (fun h => hh h.1)])
  clear hh
  go_enter Tryz.func158, Tryz.ntmps158
  go_wp2_with fail
  refine (HLD.out w HD.out).mono ?_
  rintro r w1 ⟨A1, n1, c1, x1, rfl, hb1, hn1, o1⟩
  have HH1 := hq9 (HHD.out A1 n1 c1 w1 hb1 (by omega))
  have O1 := hq9 o1
  clear hb1 o1 c0 c4
  go_wp2_with fail
  refine HH1.out.mono ?_
  rintro r w2 ⟨rfl, o2⟩
  have O2 := hq9 (O1.out.trans0 o2)
  clear o2 HH1
  have FRE := hq9 (show ∀ b, fv.ownBlock = some b → fv.ownBlock = some b ∨ w.heap.size ≤ b from fun b hb => .inl hb)
  have B5 := hq9 (HB.out.only O2.out (by simp))
  have R5 := hq9 (HR.out.only0 O2.out)
  have O5 := hq9 (O2.out.mono (T := g :: fv.ownBlock.toList) (by simp))
  have HDN := hq9 (show gd ∉ g :: fv.ownBlock.toList ∧ cb ∉ g :: fv.ownBlock.toList from ⟨fun h => by
   rcases List.mem_cons.1 h with h | h
   ·exact HNE.out.2.1 h.symm
   ·exact (HNE.out.1 gd (own_mem.1 h)).2.1 rfl, fun h => by
   rcases List.mem_cons.1 h with h | h
   ·exact HNE.out.2.2 h.symm
   ·exact (HNE.out.1 cb (own_mem.1 h)).2.2 rfl⟩)
  have k4 : w2.cell? ⟨g, 4, none⟩ = some (.int .i64 nx) := B5.out.cell 4
  have f4 := B5.out.frozen 4
  have BY := hq9 (show Blk (w2.setCell ⟨g, 4, none⟩ (.int .i64 ((nx : Int) + 1))) g 229 (rvHead gd 1 e ((nx : Int) + 1) fv kv done sv why) from B5.out.set 4 (.int .i64 ((nx : Int) + 1)))
  have oy := (Only.refl [g] w2).setCell (p := ⟨g, 4, none⟩) (.inl (by simp)) (.int .i64 ((nx : Int) + 1))
  have RY := hq9 (R5.out.only oy (fun b hb h => by simp at h; exact ((fun b hb => (HNE.out.1 b hb).1) b hb) h))
  have OY := hq9 (O5.out.trans oy (fun b hb => .inl (by simp at hb; simp [hb])))
  have DY := hq9 ((HD.out.only (O5.out) HDN.out.1 HDN.out.2).only oy (by simpa using fun h => HNE.out.2.1 h.symm) (by simpa using fun h => HNE.out.2.2 h.symm))
  clear oy
  go_wp2_with fail
  clear k4 f4
  generalize (w2.setCell ⟨g, 4, none⟩ (.int .i64 ((nx : Int) + 1))) = wy at *
  have k0 : wy.cell? ⟨g, 0, none⟩ = some (.pointer (some ⟨gd, 0, none⟩)) := BY.out.cell 0
  have k4 : wy.cell? ⟨g, 4, none⟩ = some (.int .i64 ((nx : Int) + 1)) := BY.out.cell 4
  go_wp2_with fail
  refine wp_region_later wy (by kernel_rfl) (by kernel_rfl) ?_
  have fk0 := fun (p : Later wy) => Later.cell p k0
  have fk4 := fun (p : Later wy) => Later.cell p k4
  clear k0 k4
  have gl := fun (p : Later wy) => HNL.out p.w (DY.out.only0 p.only)
  have gs := fun (p : Later wy) => HSL.out p.w
  have wr3 : IntKind.i64.wrap ((sl : Int) * 8) = (sl : Int) * 8 := by rw [IntKind.wrap_i64]; omega
  repeat (go_big_quiet_step (fail))
  go_big_quiet_step (exact Calls.later_same (gl _))
  repeat (go_big_quiet_step (fail))
  go_big_quiet_step (exact Calls.later_same (gs _))
  repeat (go_big_quiet_step (fail))
  refine wpQuiet_nil ?_
  intro _ hw'
  obtain ⟨p, hw''⟩ := hw'
  subst hw''
  have opw := p.only
  clear fk0 fk4 gl gs
  generalize p.w = wz at *
  have BZ := hq9 (BY.out.only opw (by simp))
  have RZ := hq9 (RY.out.only0 opw)
  have OZ := hq9 (OY.out.trans0 opw)
  clear opw BY RY OY DY
  by_cases hge : 8 * sl ≤ nx + 1
  ·have q1 : decide ((nx : Int) + 1 ≥ (sl : Int) * 8) = true := by go_num
   have q1b : (sl : Int) * 8 ≤ (nx : Int) + 1 := by omega
   have HGE := hq9 hge
   go_wp2_with fail
   refine (rv_to g gd 1 2 e ((nx : Int) + 1) fv kv done sv why wz BZ.out).mono ?_
   rintro r wt ⟨rfl, bt, ot⟩
   have BT := hq9 bt
   have RT := hq9 (RZ.out.only ot (fun b hb h => by simp at h; exact ((fun b hb => (HNE.out.1 b hb).1) b hb) h))
   have OT := hq9 (OZ.out.trans ot (fun b hb => .inl (by simp at hb; simp [hb])))
   clear bt ot
   go_wp2
   go_ret
   exact ⟨rfl, fv, by rw [HSC.out]; simpa using RT.out, by first | exact BT.out | (rw [if_pos HGE.out]; exact BT.out), OT.out, FRE.out⟩
  ·have q1 : decide ((nx : Int) + 1 ≥ (sl : Int) * 8) = false := by go_num
   have q1b : ¬ (sl : Int) * 8 ≤ (nx : Int) + 1 := by omega
   have HGE := hq9 hge
   go_wp2
   go_ret
   exact ⟨rfl, fv, by rw [HSC.out]; simpa using RZ.out, by first | exact BZ.out | (rw [if_neg HGE.out]; exact BZ.out), OZ.out, FRE.out⟩
end Go.Proofs.YtlggichakafkiaaGreat