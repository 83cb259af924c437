/- The reference of chapter 6: Decode. -/
import Derived.Test.YtkhfcghnodggeaaRef6B
import Derived.Test.YtkhfcghnodggeaaBlockI
import Derived.Test.YtkhfcghnodggeaaBlockG
import Derived.Test.YtkhfcghnodggeaaBlockL
import Derived.Deep.RegionHeld3
namespace Go.Proofs.Ytkhfcghnodggeaa
open Go.RowKit Go.Proofs.FuMem Go.Proofs.FuCode Go.Proofs.FuClass Go.Proofs.FuBlock Go.Proofs.FuEq Go.Proofs.FuCrc
set_option maxRecDepth 100000
theorem num8 {l : List UInt8} {a : Nat} (ha : a + 8 ≤ l.length) : num ((l.drop a).take 8) < 18446744073709551616 := by
  have := num_lt ((l.drop a).take 8)
  rw [List.length_take, Nat.min_eq_left (by rw [List.length_drop]; omega)] at this
  exact this
set_option maxHeartbeats 3000000 in
theorem ref6_Decode (A : Option Addr) (n c : Nat) (l : List UInt8) (w : World) (h : Bs w A n l) (hn : n ≤ 1000000) (hc : n ≤ c) :
    Calls Try.prog 21 #[.slice A n c] w fun e w' => e = .returned (backV l) ∧ Only [] w w' := by
  have hl := h.len
  have o1 : Only [] w (w.alloc (.cells #[.int .i64 0, .int .i64 0, .int .u64 0, .int .u64 0, .int .u64 0, .string ⟨#[]⟩, .string ⟨#[]⟩] 24)) := (Only.refl _ _).alloc _
  have HR := Lib.hid (Blk.new w 24 #[.int .i64 0, .int .i64 0, .int .u64 0, .int .u64 0, .int .u64 0, .string ⟨#[]⟩, .string ⟨#[]⟩])
  have HB := Lib.hid (h.only0 o1)
  have O1 := Lib.hid o1
  clear o1 h
  by_cases hn64 : 64 ≤ n
  case neg =>
    have hx : backV l = noneV := backV_no fun x => hn64 (by have := x.1; omega)
    rw [hx]
    clear hx hl
    have q0 : decide ((n : Int) < 64) = true := by rw [decide_eq_true_eq]; omega
    go_enter Try.func21, Try.ntmps21
    go_wp2_with ((with_reducible show wpList _ _ _ (Oper.mk none _ _ _ _ _ :: _) _ _); refine wpList_store_all rfl 24 (.tmp 2) (.tmp 29) rfl w.heap.size #[.int .i64 0, .int .i64 0, .int .u64 0, .int .u64 0, .int .u64 0, .string ⟨#[]⟩, .string ⟨#[]⟩] rfl rfl _ _ HR.out rfl blockInfo (blockV_one 0 0 0 0 0 ⟨#[]⟩ ⟨#[]⟩) ?_; intro wf hbf hof; have BF := Lib.hid hbf; have OF := Lib.hid (O1.out.trans hof (by simp)); clear hbf hof)
    refine bodyPost_ret (v := noneV) (dec_end BF.out rfl rfl rfl) rfl ⟨rfl, OF.out⟩
  have hl64 : 64 ≤ l.length := by omega
  have hb0 := HB.out
  obtain ⟨b, off, rfl, hcell⟩ := hb0.at_ (by omega)
  have q0 : decide ((n : Int) < 64) = false := by rw [decide_eq_false_iff_not]; omega
  have x1 := hcell 1 (by omega)
  have x2 := hcell 2 (by omega)
  have x3 := hcell 3 (by omega)
  rw [← getD_eq (show 1 < l.length by omega)] at x1
  rw [← getD_eq (show 2 < l.length by omega)] at x2
  rw [← getD_eq (show 3 < l.length by omega)] at x3
  have hrd : reads l ↔ 64 ≤ l.length ∧ l.length = 64 * span (l.getD 1 0).toNat ∧ (l.getD 3 0).toNat + num ((l.drop 4).take 2) ≤ capN (l.getD 1 0).toNat ∧ may (parse l) = true ∧ lines (parse l) = l := Iff.rfl
  have hpar : parse l = ⟨(l.getD 1 0).toNat, (l.getD 2 0).toNat, num ((l.drop 8).take 8), num ((l.drop 16).take 8), num ((l.drop 24).take 8), (dataOf (span (l.getD 1 0).toNat) l).take (l.getD 3 0).toNat, ((dataOf (span (l.getD 1 0).toNat) l).drop (l.getD 3 0).toNat).take (num ((l.drop 4).take 2))⟩ := rfl
  have hp1 := (l.getD 1 0).toNat_lt
  have hp2 := (l.getD 2 0).toNat_lt
  have hp3 := (l.getD 3 0).toNat_lt
  generalize (l.getD 1 0).toNat = p at *
  generalize (l.getD 2 0).toNat = q at *
  generalize (l.getD 3 0).toNat = k at *
  have HRD := Lib.hid hrd
  have HPAR := Lib.hid hpar
  clear hb0 hcell hrd hpar
  by_cases hp : p ≤ 3
  case neg =>
    have HNO := Lib.hid (backV_no (l := l) fun x => by have h2 := (HRD.out.1 x).2.1; have := span_cases (p : Int); omega)
    rw [HNO.out]
    have q1 : decide ((3 : Int) < (p : Int)) = true := by rw [decide_eq_true_eq]; omega
    clear hl
    go_enter Try.func21, Try.ntmps21
    go_wp2_with ((with_reducible show wpList _ _ _ (Oper.mk none _ _ _ _ _ :: _) _ _); refine wpList_store_all rfl 24 (.tmp 2) (.tmp 29) rfl w.heap.size #[.int .i64 0, .int .i64 0, .int .u64 0, .int .u64 0, .int .u64 0, .string ⟨#[]⟩, .string ⟨#[]⟩] rfl rfl _ _ HR.out rfl blockInfo (blockV_one 0 0 0 0 0 ⟨#[]⟩ ⟨#[]⟩) ?_; intro wf hbf hof; have BF := Lib.hid hbf; have OF := Lib.hid (O1.out.trans hof (by simp)); clear hbf hof)
    refine bodyPost_ret (v := noneV) (dec_end BF.out rfl rfl rfl) rfl ⟨rfl, OF.out⟩
  have q1 : decide ((3 : Int) < (p : Int)) = false := by rw [decide_eq_false_iff_not]; omega
  have hsp := span_pos (c := (p : Int)) (by omega) (by omega)
  have hcv := capN_val (p : Int)
  have HSP := Lib.hid (fun w => ref5_Span (p : Int) w)
  have hd1 := dataOf_one hl64
  have hds := fun j hj => dataOf_succ (l := l) (j := j) hj
  have hdl : (dataOf (span (p : Int)) l).length = 28 + 63 * (span (p : Int) - 1) := by
    unfold dataOf
    simp
  generalize span (p : Int) = s at *
  by_cases hns : n = 64 * s
  case neg =>
    have HNO := Lib.hid (backV_no (l := l) fun x => hns (by have := (HRD.out.1 x).2.1; omega))
    rw [HNO.out]
    have q2 : ((n : Int) != 64 * (s : Int)) = true := by rw [bne_iff_ne]; omega
    have q3 : ¬ (n : Int) = 64 * (s : Int) := by omega
    clear hl hdl hns
    go_enter Try.func21, Try.ntmps21
    go_wp2_with fail
    refine (HSP.out _).mono ?_
    rintro e w' ⟨rfl, rfl⟩
    go_wp2_with ((with_reducible show wpList _ _ _ (Oper.mk none _ _ _ _ _ :: _) _ _); refine wpList_store_all rfl 24 (.tmp 2) (.tmp 29) rfl w.heap.size #[.int .i64 0, .int .i64 0, .int .u64 0, .int .u64 0, .int .u64 0, .string ⟨#[]⟩, .string ⟨#[]⟩] rfl rfl _ _ HR.out rfl blockInfo (blockV_one 0 0 0 0 0 ⟨#[]⟩ ⟨#[]⟩) ?_; intro wf hbf hof; have BF := Lib.hid hbf; have OF := Lib.hid (O1.out.trans hof (by simp)); clear hbf hof)
    refine bodyPost_ret (v := noneV) (dec_end BF.out rfl rfl rfl) rfl ⟨rfl, OF.out⟩
  have q2 : ((n : Int) != 64 * (s : Int)) = false := by rw [bne_eq_false_iff_eq]; omega
  have HNS := Lib.hid hns
  have HL := Lib.hid hl
  have HDL := Lib.hid hdl
  have HD1 := Lib.hid hd1
  have HDS := Lib.hid hds
  have HCV := Lib.hid hcv
  clear hl hdl hns hd1 hds hcv
  have wp : IntKind.i64.wrap (p : Int) = (p : Int) := by rw [IntKind.wrap_i64]; omega
  have wq : IntKind.i64.wrap (q : Int) = (q : Int) := by rw [IntKind.wrap_i64]; omega
  have hsz : (w.alloc (.cells #[.int .i64 0, .int .i64 0, .int .u64 0, .int .u64 0, .int .u64 0, .string ⟨#[]⟩, .string ⟨#[]⟩] 24)).heap.size = w.heap.size + 1 := by simp
  have bn0 := Blk.new (w.alloc (.cells #[.int .i64 0, .int .i64 0, .int .u64 0, .int .u64 0, .int .u64 0, .string ⟨#[]⟩, .string ⟨#[]⟩] 24)) 24 #[.int .i64 p, .int .i64 q, .int .u64 0, .int .u64 0, .int .u64 0, .string ⟨#[]⟩, .string ⟨#[]⟩]
  rw [hsz] at bn0
  have BN3 := Lib.hid (show Blk ((w.alloc (.cells #[.int .i64 0, .int .i64 0, .int .u64 0, .int .u64 0, .int .u64 0, .string ⟨#[]⟩, .string ⟨#[]⟩] 24)).alloc (.cells #[.int .i64 p, .int .i64 q, .int .u64 0, .int .u64 0, .int .u64 0, .string ⟨#[]⟩, .string ⟨#[]⟩] 24)).drew (w.heap.size + 1) 24 _ from bn0)
  have ON3 := Lib.hid (show Only [] (w.alloc (.cells #[.int .i64 0, .int .i64 0, .int .u64 0, .int .u64 0, .int .u64 0, .string ⟨#[]⟩, .string ⟨#[]⟩] 24)) ((w.alloc (.cells #[.int .i64 0, .int .i64 0, .int .u64 0, .int .u64 0, .int .u64 0, .string ⟨#[]⟩, .string ⟨#[]⟩] 24)).alloc (.cells #[.int .i64 p, .int .i64 q, .int .u64 0, .int .u64 0, .int .u64 0, .string ⟨#[]⟩, .string ⟨#[]⟩] 24)).drew from ((Only.refl _ _).alloc _).drew)
  have hgw : (w.alloc (.cells #[.int .i64 0, .int .i64 0, .int .u64 0, .int .u64 0, .int .u64 0, .string ⟨#[]⟩, .string ⟨#[]⟩] 24)).heap.size ≤ w.heap.size + 1 := by omega
  have HGW := Lib.hid hgw
  clear bn0 hsz hgw
  have v1 : (1 : Int) < (n : Int) := by omega
  have v2 : (2 : Int) < (n : Int) := by omega
  have v3 : 1 < n := by omega
  have v4 : 2 < n := by omega
  go_enter Try.func21, Try.ntmps21
  go_wp2_with fail
  refine (HSP.out _).mono ?_
  rintro e w' ⟨rfl, rfl⟩
  go_wp2
  go_region_held3 (fun w' => w'.cell? ⟨b, off + 1, none⟩ = some (.int .u8 p) ∧ w'.cell? ⟨b, off + 2, none⟩ = some (.int .u8 q)) (go_keep) (first | fail)
  generalize ((w.alloc (.cells #[.int .i64 0, .int .i64 0, .int .u64 0, .int .u64 0, .int .u64 0, .string ⟨#[]⟩, .string ⟨#[]⟩] 24)).alloc (.cells #[.int .i64 p, .int .i64 q, .int .u64 0, .int .u64 0, .int .u64 0, .string ⟨#[]⟩, .string ⟨#[]⟩] 24)).drew = w3 at BN3 ON3 ⊢
  generalize w.heap.size + 1 = g at BN3 HGW ⊢
  have HB3 := Lib.hid (HB.out.only0 ON3.out)
  go_wp2_with fail
  refine (ref2_Number (some ⟨b, off + 8, none⟩) 8 (c - 8) ((l.drop 8).take 8) w3 (HB3.out.cut (a := 8) (m := 8) (by omega)) (by omega)).mono ?_
  rintro e w' ⟨rfl, rfl⟩
  have b2 := num8 (l := l) (a := 8) (by omega)
  generalize num ((l.drop 8).take 8) = id at HPAR b2 ⊢
  have z2 : w3.cell? ⟨g, 2, none⟩ = some (.int .u64 0) := BN3.out.cell 2
  have f2 := BN3.out.frozen 2
  have ON4 := Lib.hid (ON3.out.setCell (p := ⟨g, 2, none⟩) (.inr HGW.out) (.int .u64 (id : Int)))
  have BN4 := Lib.hid (show Blk (w3.setCell ⟨g, 2, none⟩ (.int .u64 (id : Int))) g 24 #[.int .i64 p, .int .i64 q, .int .u64 id, .int .u64 0, .int .u64 0, .string ⟨#[]⟩, .string ⟨#[]⟩] from BN3.out.set 2 _)
  have HB4 := Lib.hid (HB.out.only0 ON4.out)
  go_wp2_with fail
  generalize w3.setCell ⟨g, 2, none⟩ (.int .u64 (id : Int)) = w4 at BN4 ON4 HB4 ⊢
  refine (ref2_Number (some ⟨b, off + 16, none⟩) 8 (c - 16) ((l.drop 16).take 8) w4 (HB4.out.cut (a := 16) (m := 8) (by omega)) (by omega)).mono ?_
  rintro e w' ⟨rfl, rfl⟩
  have b3 := num8 (l := l) (a := 16) (by omega)
  generalize num ((l.drop 16).take 8) = ver at HPAR b3 ⊢
  have z3 : w4.cell? ⟨g, 3, none⟩ = some (.int .u64 0) := BN4.out.cell 3
  have f3 := BN4.out.frozen 3
  have ON5 := Lib.hid (ON4.out.setCell (p := ⟨g, 3, none⟩) (.inr HGW.out) (.int .u64 (ver : Int)))
  have BN5 := Lib.hid (show Blk (w4.setCell ⟨g, 3, none⟩ (.int .u64 (ver : Int))) g 24 #[.int .i64 p, .int .i64 q, .int .u64 id, .int .u64 ver, .int .u64 0, .string ⟨#[]⟩, .string ⟨#[]⟩] from BN4.out.set 3 _)
  have HB5 := Lib.hid (HB.out.only0 ON5.out)
  go_wp2_with fail
  generalize w4.setCell ⟨g, 3, none⟩ (.int .u64 (ver : Int)) = w5 at BN5 ON5 HB5 ⊢
  refine (ref2_Number (some ⟨b, off + 24, none⟩) 8 (c - 24) ((l.drop 24).take 8) w5 (HB5.out.cut (a := 24) (m := 8) (by omega)) (by omega)).mono ?_
  rintro e w' ⟨rfl, rfl⟩
  have b4 := num8 (l := l) (a := 24) (by omega)
  generalize num ((l.drop 24).take 8) = ep at HPAR b4 ⊢
  have z4 : w5.cell? ⟨g, 4, none⟩ = some (.int .u64 0) := BN5.out.cell 4
  have f4 := BN5.out.frozen 4
  have ON6 := Lib.hid (ON5.out.setCell (p := ⟨g, 4, none⟩) (.inr HGW.out) (.int .u64 (ep : Int)))
  have BN6 := Lib.hid (show Blk (w5.setCell ⟨g, 4, none⟩ (.int .u64 (ep : Int))) g 24 #[.int .i64 p, .int .i64 q, .int .u64 id, .int .u64 ver, .int .u64 ep, .string ⟨#[]⟩, .string ⟨#[]⟩] from BN5.out.set 4 _)
  have HB6 := Lib.hid (HB.out.only0 ON6.out)
  have hst := run_str (P := Try.prog) Try.underlying27 Try.underlying5 Try.underlying9 (HB6.out.cut (a := 36) (m := 28) (by omega)) (c - 36)
  go_wp2
  generalize w5.setCell ⟨g, 4, none⟩ (.int .u64 (ep : Int)) = w6 at BN6 ON6 HB6 hst ⊢
  have z0 : w6.cell? ⟨g, 0, none⟩ = some (.int .i64 p) := BN6.out.cell 0
  have X3 := Lib.hid ((cell_only ON6.out (lt_of_cell x3) (by simp)).trans x3)
  have hn512 : n ≤ 512 := by have := HNS.out; omega
  clear x1 x2 x3 z2 z3 z4 f2 f3 f4 hst
  go_loop [5, 6] (fun dv kv => ∃ (j : Nat) (D : ByteArray), 1 ≤ j ∧ j ≤ s ∧ kv = .int .i64 j ∧ dv = .string D ∧ D.data.toList = dataOf j l) (fun _ kv => s - (intOf kv).toNat)
  case atStart => exact ⟨1, _, by omega, by omega, by simp, rfl, by rw [HD1.out]⟩
  case round =>
    obtain ⟨j, D, hj1, hj2, rfl, rfl, hD⟩ := hrel
    have HD := Lib.hid hD
    clear hD
    by_cases hjs : j < s
    · have q5 : decide ((j : Int) < (s : Int)) = true := by rw [decide_eq_true_eq]; omega
      have yb : 64 * (j : Int) + 64 ≤ (c : Int) := by have := HNS.out; omega
      have yc : ¬ c = 64 * j + 1 := by omega
      have hcut : Bs w6 (some ⟨b, off + (64 * j + 1), none⟩) 63 ((l.drop (64 * j + 1)).take 63) := HB6.out.cut (by have := HNS.out; omega)
      have e63 : 64 * j + 64 - (64 * j + 1) = 63 := by omega
      have hst0 := run_str (P := Try.prog) Try.underlying27 Try.underlying5 Try.underlying9 hcut (c - (64 * j + 1))
      have HST := Lib.hid (HDS.out j hj1 (by have := HNS.out; have := HL.out; omega))
      have hDz : D.size = (dataOf j l).length := by rw [← HD.out]; rfl
      have hDz2 : (dataOf j l).length ≤ 512 := by unfold dataOf; simp; omega
      have hDs : D.size ≤ 512 := by omega
      have hls : ((l.drop (64 * j + 1)).take 63).length = 63 := by rw [List.length_take, List.length_drop]; have := HNS.out; have := HL.out; omega
      clear hcut hDz hDz2
      generalize (l.drop (64 * j + 1)).take 63 = L63 at *
      have HLS := Lib.hid hls
      go_wp2_with fail
      refine (HSP.out _).mono ?_
      rintro e w' ⟨rfl, rfl⟩
      go_wp2
      go_round
      · exact ⟨j + 1, D ++ ⟨L63.toArray⟩, by omega, by omega, by simp, rfl, by rw [ByteArray.data_append, Array.toList_append, HD.out, HST.out]⟩
      · simp [intOf]
        omega
    · obtain rfl : j = s := by omega
      have q5 : decide ((j : Int) < (j : Int)) = false := by simp
      have x3 := X3.out
      have n4 : num ((l.drop 4).take 2) < 65536 := by
        have := num_lt ((l.drop 4).take 2)
        rw [List.length_take, Nat.min_eq_left (by rw [List.length_drop]; omega)] at this
        exact this
      have HG4 := Lib.hid (fun w' (hw : Bs w' (some ⟨b, off, none⟩) n l) => Calls.flip (ref2_Number (some ⟨b, off + 4, none⟩) 2 (c - 4) ((l.drop 4).take 2) w' (hw.cut (a := 4) (m := 2) (by omega)) (by omega)))
      generalize hv : num ((l.drop 4).take 2) = v at *
      clear hv
      have wk : IntKind.i64.wrap (k : Int) = (k : Int) := by rw [IntKind.wrap_i64]; omega
      have wv : IntKind.i64.wrap (v : Int) = (v : Int) := by rw [IntKind.wrap_i64]; omega
      have v5 : (3 : Int) < (n : Int) := by omega
      have v6 : 3 < n := by omega
      go_wp2_with fail
      refine (HSP.out _).mono ?_
      rintro e w' ⟨rfl, rfl⟩
      go_wp2
      go_quiet ((go_at_call 41; exact Calls.quiet_of_same (HG4.out _ (HB6.out.only0 (by first | exact Only.refl _ _ | exact (Only.refl _ _).drewN _)))))
      have ON7 := Lib.hid (ON6.out.drewN nq)
      have BN7 := Lib.hid (BN6.out.only ((Only.refl [] w6).drewN nq) (by simp))
      generalize w6.drewN nq = w7 at ON7 BN7 ⊢
      have HR7 := Lib.hid (HR.out.only ON7.out (by simp))
      have HB7 := Lib.hid (HB.out.only0 ON7.out)
      have O7 := Lib.hid (O1.out.trans0 ON7.out)
      have hDz : D.size = (dataOf j l).length := by rw [← HD.out]; rfl
      have hDc : D.size = capN (p : Int) := by rw [hDz, HDL.out]; have := HCV.out; omega
      have hDs : D.size ≤ 512 := by rw [hDz, HDL.out]; have := HNS.out; omega
      have HRR : Hid (reads l ↔ k + v ≤ D.size ∧ may (parse l) = true ∧ lines (parse l) = l) := Lib.hid (by
        rw [HRD.out, hDc]
        have := HL.out
        have := HNS.out
        exact ⟨fun ⟨_, _, x3, x4, x5⟩ => ⟨x3, x4, x5⟩, fun ⟨x3, x4, x5⟩ => ⟨hl64, by omega, x3, x4, x5⟩⟩)
      clear hDz hDc x3 z0
      by_cases hkv : k + v ≤ D.size
      case neg =>
        have HNO := Lib.hid (backV_no (l := l) fun x => hkv (HRR.out.1 x).1)
        have q8 : decide ((D.size : Int) < (k : Int) + (v : Int)) = true := by rw [decide_eq_true_eq]; omega
        go_wp2_with ((with_reducible show wpList _ _ _ (Oper.mk none _ _ _ _ _ :: _) _ _); refine wpList_store_all rfl 24 (.tmp 2) (.tmp 86) rfl w.heap.size #[.int .i64 0, .int .i64 0, .int .u64 0, .int .u64 0, .int .u64 0, .string ⟨#[]⟩, .string ⟨#[]⟩] rfl rfl _ _ HR7.out rfl blockInfo (blockV_one 0 0 0 0 0 ⟨#[]⟩ ⟨#[]⟩) ?_; intro wf hbf hof; have BF := Lib.hid hbf; have OF := Lib.hid (O7.out.trans hof (by simp)); clear hbf hof)
        refine bodyPost_ret (v := noneV) (dec_end BF.out rfl rfl rfl) rfl ⟨by rw [HNO.out], OF.out⟩
      have q8 : decide ((D.size : Int) < (k : Int) + (v : Int)) = false := by rw [decide_eq_false_iff_not]; omega
      have y0 : (0 : Int) ≤ (k : Int) := by omega
      have y1 : (k : Int) ≤ (D.size : Int) := by omega
      have y2 : (k : Int) + (v : Int) ≤ (D.size : Int) := by omega
      have y3 : (k : Int) ≤ (k : Int) + (v : Int) := by omega
      have y4 : 0 ≤ (k : Int) + (v : Int) := by omega
      have y5 : IntKind.i64.wrap ((k : Int) + (v : Int)) = (k : Int) + (v : Int) := by rw [IntKind.wrap_i64]; omega
      have z5 : w7.cell? ⟨g, 5, none⟩ = some (.string ⟨#[]⟩) := BN7.out.cell 5
      have z6 : w7.cell? ⟨g, 6, none⟩ = some (.string ⟨#[]⟩) := BN7.out.cell 6
      have f5 := BN7.out.frozen 5
      have f6 := BN7.out.frozen 6
      go_wp2
      have HKS := Lib.hid (show (D.extract 0 k).data.toList = (dataOf j l).take k by rw [← HD.out]; simp)
      have HVS := Lib.hid (show (D.extract k (k + v)).data.toList = ((dataOf j l).drop k).take v by
        rw [← HD.out]
        simp [List.extract_eq_take_drop])
      have HPB := Lib.hid (show mkB p q id ver ep (D.extract 0 k) (D.extract k (k + v)) = parse l by
        rw [HPAR.out]
        unfold mkB
        rw [HKS.out, HVS.out])
      have hsz1 : (D.extract 0 k).size ≤ 1000000 := by rw [ByteArray.size_extract]; omega
      have hsz2 : (D.extract k (k + v)).size ≤ 1000000 := by rw [ByteArray.size_extract]; omega
      have ON8 := Lib.hid ((ON7.out.setCell (p := ⟨g, 5, none⟩) (.inr HGW.out) (.string (D.extract 0 k))).setCell (p := ⟨g, 6, none⟩) (.inr HGW.out) (.string (D.extract k (k + v))))
      have BN8 := Lib.hid (show Blk ((w7.setCell ⟨g, 5, none⟩ (.string (D.extract 0 k))).setCell ⟨g, 6, none⟩ (.string (D.extract k (k + v)))) g 24 #[.int .i64 p, .int .i64 q, .int .u64 id, .int .u64 ver, .int .u64 ep, .string (D.extract 0 k), .string (D.extract k (k + v))] from (BN7.out.set 5 _).set 6 _)
      generalize (w7.setCell ⟨g, 5, none⟩ (.string (D.extract 0 k))).setCell ⟨g, 6, none⟩ (.string (D.extract k (k + v))) = w8 at ON8 BN8 ⊢
      generalize D.extract 0 k = ks at *
      generalize D.extract k (k + v) = vs at *
      have HR8 := Lib.hid (HR.out.only ON8.out (by simp))
      have HB8 := Lib.hid (HB.out.only0 ON8.out)
      have O8 := Lib.hid (O1.out.trans0 ON8.out)
      have HM := Lib.hid (fun w => ref6_May p q id ver ep ks vs w b2 b3 b4 hsz1 hsz2)
      rw [HPB.out] at HM
      clear z5 z6 f5 f6 hsz1 hsz2
      by_cases hm : may (parse l) = true
      case neg =>
        have HNO := Lib.hid (backV_no (l := l) fun x => hm (HRR.out.1 x).2.1)
        have hm2 : may (parse l) = false := by simpa using hm
        rw [hm2] at HM
        clear hm hm2
        refine wp_region_later w8 (by kernel_rfl) (by kernel_rfl) ?_
        refine later_load_struct rfl (.tmp 4) rfl g rfl p q id ver ep ks vs BN8.out ?_
        repeat (quiet_step (fail))
        quiet_step (exact Calls.later (HM.out _))
        repeat (quiet_step (fail))
        refine wpQuiet_nil ?_
        intro _ hw'
        obtain ⟨p, hw''⟩ := hw'
        subst hw''
        have HR9 := Lib.hid (HR8.out.only p.only (by simp))
        have O9 := Lib.hid (O8.out.trans0 p.only)
        go_wp2_with ((with_reducible show wpList _ _ _ (Oper.mk none _ _ _ _ _ :: _) _ _); refine wpList_store_all rfl 24 (.tmp 2) (.tmp 109) rfl w.heap.size #[.int .i64 0, .int .i64 0, .int .u64 0, .int .u64 0, .int .u64 0, .string ⟨#[]⟩, .string ⟨#[]⟩] rfl rfl _ _ HR9.out rfl blockInfo (blockV_one 0 0 0 0 0 ⟨#[]⟩ ⟨#[]⟩) ?_; intro wf hbf hof; have BF := Lib.hid hbf; have OF := Lib.hid (O9.out.trans hof (by simp)); clear hbf hof)
        refine bodyPost_ret (v := noneV) (dec_end BF.out rfl rfl rfl) rfl ⟨by rw [HNO.out], OF.out⟩
      have HLI := Lib.hid (fun w => ref6_Lines p q id ver ep ks vs w (by rw [HPB.out]; exact hm))
      rw [hm] at HM
      rw [HPB.out] at HLI
      have BN8d := Lib.hid (BN8.out.only (Only.refl [] w8).drew (by simp))
      have HB8d := Lib.hid (HB8.out.only0 (Only.refl [] w8).drew)
      obtain ⟨Y, hY⟩ : ∃ Y : ByteArray, Y = ⟨l.toArray⟩ := ⟨_, rfl⟩
      have hsty := run_str (P := Try.prog) Try.underlying27 Try.underlying5 Try.underlying9 HB8d.out c
      rw [← hY] at hsty
      have HRS := Lib.hid (fun w' (hw : Bs w' (some ⟨b, off, none⟩) n l) => run_str (P := Try.prog) Try.underlying27 Try.underlying5 Try.underlying9 hw c)
      rw [← hY] at HRS
      have HY := Lib.hid hY
      obtain ⟨X, hX⟩ : ∃ X : ByteArray, X = ⟨(lines (parse l)).toArray⟩ := ⟨_, rfl⟩
      have HXS := Lib.hid (fun w' A' c' (hw : Bs w' A' (lines (parse l)).length (lines (parse l))) => run_str (P := Try.prog) Try.underlying27 Try.underlying5 Try.underlying9 hw c')
      rw [← hX] at HXS
      have HX := Lib.hid hX
      clear hX hY
      have z0_w8 : w8.cell? ⟨g, 0, none⟩ = some (.int .i64 p) := BN8.out.cell 0
      have z1_w8 : w8.cell? ⟨g, 1, none⟩ = some (.int .i64 q) := BN8.out.cell 1
      have z2_w8 : w8.cell? ⟨g, 2, none⟩ = some (.int .u64 id) := BN8.out.cell 2
      have z3_w8 : w8.cell? ⟨g, 3, none⟩ = some (.int .u64 ver) := BN8.out.cell 3
      have z4_w8 : w8.cell? ⟨g, 4, none⟩ = some (.int .u64 ep) := BN8.out.cell 4
      have z5_w8 : w8.cell? ⟨g, 5, none⟩ = some (.string ks) := BN8.out.cell 5
      have z6_w8 : w8.cell? ⟨g, 6, none⟩ = some (.string vs) := BN8.out.cell 6
      go_region_with (first | (go_at_call 37; refine (HLI.out _).mono ?_; rintro e wl ⟨vl, rfl, Al, cl, rfl, bl, ol⟩; have BL := Lib.hid (BM.out.only ol (by simp)); have HBL := Lib.hid (HBM.out.only0 ol); have OL := Lib.hid (OM.out.trans0 ol); have RL := Lib.hid (RM.out.only ol (by simp)); have z0_wl : wl.cell? ⟨g, 0, none⟩ = some (.int .i64 p) := BL.out.cell 0; have z1_wl : wl.cell? ⟨g, 1, none⟩ = some (.int .i64 q) := BL.out.cell 1; have z2_wl : wl.cell? ⟨g, 2, none⟩ = some (.int .u64 id) := BL.out.cell 2; have z3_wl : wl.cell? ⟨g, 3, none⟩ = some (.int .u64 ver) := BL.out.cell 3; have z4_wl : wl.cell? ⟨g, 4, none⟩ = some (.int .u64 ep) := BL.out.cell 4; have z5_wl : wl.cell? ⟨g, 5, none⟩ = some (.string ks) := BL.out.cell 5; have z6_wl : wl.cell? ⟨g, 6, none⟩ = some (.string vs) := BL.out.cell 6; have hstl := HRS.out _ HBL.out; have hsto := HXS.out wl Al cl (bs_own bl); clear bl ol) | (go_at_call 13; refine (HM.out _).mono ?_; rintro e wm ⟨rfl, om⟩; have BM := Lib.hid (BN8d.out.only om (by simp)); have HBM := Lib.hid (HB8d.out.only0 om); have OM := Lib.hid ((O8.out.drew).trans0 om); have RM := Lib.hid ((HR8.out.only (Only.refl [] w8).drew (by simp)).only om (by simp)); have z0_wm : wm.cell? ⟨g, 0, none⟩ = some (.int .i64 p) := BM.out.cell 0; have z1_wm : wm.cell? ⟨g, 1, none⟩ = some (.int .i64 q) := BM.out.cell 1; have z2_wm : wm.cell? ⟨g, 2, none⟩ = some (.int .u64 id) := BM.out.cell 2; have z3_wm : wm.cell? ⟨g, 3, none⟩ = some (.int .u64 ver) := BM.out.cell 3; have z4_wm : wm.cell? ⟨g, 4, none⟩ = some (.int .u64 ep) := BM.out.cell 4; have z5_wm : wm.cell? ⟨g, 5, none⟩ = some (.string ks) := BM.out.cell 5; have z6_wm : wm.cell? ⟨g, 6, none⟩ = some (.string vs) := BM.out.cell 6; have hstm := HRS.out _ HBM.out; clear om))
      all_goals
        by_cases hll : lines (parse l) = l
        case neg =>
          have HNO := Lib.hid (backV_no (l := l) fun x => hll (HRR.out.1 x).2.2)
          have e1 : (X.toList == Y.toList) = false := by rw [HX.out, HY.out, toList_beq]; simpa using hll
          have e2 : (!(X.toList == Y.toList)) = true := by rw [e1]; rfl
          clear e1
          rw [e2]
          clear hll hm
          go_wp2_with ((with_reducible show wpList _ _ _ (Oper.mk none _ _ _ _ _ :: _) _ _); refine wpList_store_all rfl 24 (.tmp 2) (.tmp 109) rfl w.heap.size #[.int .i64 0, .int .i64 0, .int .u64 0, .int .u64 0, .int .u64 0, .string ⟨#[]⟩, .string ⟨#[]⟩] rfl rfl _ _ RL.out rfl blockInfo (blockV_one 0 0 0 0 0 ⟨#[]⟩ ⟨#[]⟩) ?_; intro wf hbf hof; have BF := Lib.hid hbf; have OF := Lib.hid (OL.out.trans hof (by simp)); clear hbf hof)
          refine bodyPost_ret (v := noneV) (dec_end BF.out rfl rfl rfl) rfl ⟨by rw [HNO.out], OF.out⟩
        have HYES := Lib.hid (show backV l = .tuple #[blockV p q id ver ep ks vs, .bool true] by
          rw [backV_yes (HRR.out.2 ⟨hkv, hm, hll⟩), ← HPB.out]
          rfl)
        have e1 : (X.toList == Y.toList) = true := by rw [HX.out, HY.out, hll]; simp
        have e2 : (!(X.toList == Y.toList)) = false := by rw [e1]; rfl
        clear e1
        rw [e2]
        clear hll hm
        go_wp2_with ((with_reducible show wpList _ _ _ (Oper.mk none _ _ _ _ _ :: _) _ _); refine wpList_store_all rfl 24 (.tmp 2) (.tmp 110) rfl w.heap.size #[.int .i64 p, .int .i64 q, .int .u64 id, .int .u64 ver, .int .u64 ep, .string ks, .string vs] rfl rfl _ _ RL.out rfl blockInfo (blockV_one p q id ver ep ks vs) ?_; intro wf hbf hof; have BF := Lib.hid hbf; have OF := Lib.hid (OL.out.trans hof (by simp)); clear hbf hof)
        refine bodyPost_ret (v := .tuple #[blockV p q id ver ep ks vs, .bool true]) (dec_end BF.out rfl rfl rfl) rfl ⟨by rw [HYES.out], OF.out⟩
end Go.Proofs.Ytkhfcghnodggeaa
