/- A put's change is made. (printed by gen-yl.py) -/
import Derived.Test.YtlggichakafkiaaGreatGTopHostile1
import Derived.Test.YtlggichakafkiaaGreatGTopHostile2
import Derived.Test.YtlggichakafkiaaGreatGTopHostile3
import Derived.Test.YtlggichakafkiaaGreatGTopHostile4
import Derived.Test.YtlggichakafkiaaGreatGTopHostile5
import Derived.Test.YtlggichakafkiaaGreatGTopHostile6
import Derived.Test.YtlggichakafkiaaGreatGTopHostile7
import Derived.Test.YtlggichakafkiaaGreatGTopHostile8
import Derived.Test.YtlggichakafkiaaGreatGTopHostile9
import Derived.Test.YtlggichakafkiaaGreatGTopHostile10
import Derived.Test.YtlggichakafkiaaGreatGTopHostile11
import Derived.Test.YtlggichakafkiaaGreatGTopHostile12
set_option linter.unusedSimpArgs false
set_option linter.unusedVariables false
namespace Go.Proofs.YtlggichakafkiaaGreat
open Go.BigFrame Go.RowKit Go.Proofs.FuMem Go.Proofs.FuTop Go.Proofs.FuNvm Go.Proofs.FuPool Go.Proofs.FuClk Go.Proofs.FuBlock Go.Proofs.FuClass Go.Proofs.FuCrc
set_option maxRecDepth 100000
def encA : List UInt8 := (enc (mkB 0 1 1 1 1 ⟨#[97]⟩ ⟨#[49]⟩)).1
theorem encA_len : encA.length = 64 := by decide +kernel
theorem encA_err : (enc (mkB 0 1 1 1 1 ⟨#[97]⟩ ⟨#[49]⟩)).2 = 0 := by decide +kernel
theorem arena_Encode (w : World) : Calls Tryz.prog 193 #[.agg (blC 1 1 1).toArray] w fun e w' => ∃ b off c, e = .returned (.tuple #[.slice (some ⟨b, off, none⟩) 64 c, .int .i64 0]) ∧ Bs w' (some ⟨b, off, none⟩) 64 encA ∧ 64 ≤ c ∧ Only [] w w' := by
 have h := block_Encode 0 1 1 1 1 ⟨#[97]⟩ ⟨#[49]⟩ w (by decide) (by decide) (by decide) (by decide) (by decide) (by decide)
 refine h.mono ?_
 rintro e w' ⟨x, rfl, hm⟩
 rw [encA_err]
 have hm' : MadeB w encA x w' := hm
 obtain ⟨A, c, rfl, how, o⟩ := hm'
 have hb := bs_own how
 rw [encA_len] at how hb ⊢
 rcases how.2 with ⟨hv, h0⟩ | ⟨g, cap, cur, hv, _, hg, hc, hm, hsz, htk⟩
 ·cases hv
 ·cases hv
  exact ⟨g, 0, _, rfl, hb, hc, o⟩
theorem effRec : ∃ i z, Tryz.prog.info? 182 = some i ∧ i.zero = some z ∧ i.size = 7 ∧ z.cells.size = 7 ∧ i.bytes ≤ 128 := ⟨_, _, rfl, rfl, rfl, rfl, by decide⟩
theorem push_eff {w : World} {v : Value} {L : List Eff} (h : RowS 182 7 w v (L.map effC)) (hn : L.length ≤ 1000000) {A : Option Addr} {x : Eff} (hr : Sl w A 7 (effC x)) :
  ∃ v' w', (Builtin.append_ #[105, 105] 105 #[v, .slice A 1 1]).run Tryz.prog w = .ok v' w' ∧ RowS 182 7 w' v' ((L ++ [x]).map effC) ∧ Only v.ownBlock.toList w w' ∧ (v'.ownBlock = v.ownBlock ∨ v'.ownBlock = some w.heap.size) := by
 obtain ⟨i, z, hi, hz, hs, hzs, hb⟩ := effRec
 have := h.push (P := Tryz.prog) 105 105 i z i.bytes Tryz.underlying105 hi hz hs rfl hzs (by decide) A 1 (effC x) hr (by intro u hu; simp [effC] at hu; rcases hu with rfl | rfl | rfl | rfl | rfl | rfl | rfl <;> rfl) (by rw [List.length_map]; unfold maxLen; omega) (by
  rw [List.length_map]
  calc (L.length + 1) * i.bytes ≤ 1000001 * 128 := Nat.mul_le_mul (by omega) hb
   _ ≤ _ := by decide)
 simpa using this
def putS (S : ArS) : ArS := { S with id := 1, ver := 1, C := noteC S.C 0 2, T := ins ⟨[97], 1, 1, 2, 0⟩ S.T, Ls := setLev (lev (crc [97])) ⟨[97], 1, 1, 2, 0⟩ S.Ls, F := [⟨1, [97], [49], 1, 1, 1, 1⟩] }
set_option maxHeartbeats 4000000 in
theorem arena_change (gd cb cap : Nat) (B : ArB) (S : ArS) (D : Dev) (w : World) (h : ChIn w gd cb cap B w B S D []) (hid : S.id = 0) (hver : S.ver = 0) (hF : S.F = []) (hT : S.T.length < maxLen) (ho : 1 ≤ S.C.owed.length) (hr : ∀ L ∈ S.Ls, Rising L ∧ L.length ≤ 99999) :
  Calls Tryz.prog 371 #[.pointer (some ⟨B.a, 0, none⟩), .int .i64 0, .int .u64 1, .agg chC.toArray, .int .u64 0] w fun e w' => e = .returned (.int .u64 1) ∧ ∃ ov ev, ChIn w gd cb cap B w' { B with ov := ov, ev := ev } (putS S) (store1 D 2 0 encA) [] := by
 obtain ⟨done, P, now, has, C, E, T, Ls, L, id, ver, F⟩ := S
 simp only at hid hver hF hT ho hr
 subst hid hver hF
 have H1 := hq9 (h.new ((Only.refl [] w).alloc (.cells chC.toArray 447)) (Blk.new w 447 chC.toArray) (Nat.le_refl _))
 have HLD := hq9 (arena_laid 1 1 1)
 have HEN := hq9 arena_Encode
 have HT := hq9 hT
 have HO := hq9 ho
 have HR := hq9 hr
 clear h hT ho hr
 unfold chC blC at *
 go_enter Tryz.func371, Tryz.ntmps371
 go_wp2_with fail
 generalize (w.alloc (.cells #[.int .i64 2, .string ⟨#[97]⟩, .string ⟨#[49]⟩, .bool false, .string ⟨#[]⟩, .int .u64 0, .int .u64 0, .int .i64 0, .int .i64 0, .int .i64 2, .int .i64 0] 447)) = w1 at *
 refine (uint64_Add B.a 9 0 1 1 w1 (H1.out.ar.head.cell 9) (H1.out.ar.head.frozen 9) (by decide)).mono ?_
 rintro r w' ⟨rfl, rfl⟩
 have H2 := hq9 (H1.out.head 9 (.int .u64 1) (i := 0) (j := 1) rfl)
 clear H1
 generalize (World.setCell w1 _ _) = w2 at *
 have x5 : w2.cell? ⟨w.heap.size, 5, none⟩ = some (.int .u64 0) := (H2.out.get (i := 0) rfl).cell 5
 have x0 : w2.cell? ⟨w.heap.size, 0, none⟩ = some (.int .i64 2) := (H2.out.get (i := 0) rfl).cell 0
 have x3 : w2.cell? ⟨w.heap.size, 3, none⟩ = some (.bool false) := (H2.out.get (i := 0) rfl).cell 3
 go_wp2_with fail
 refine (uint64_Add B.a 8 0 1 1 w2 (H2.out.ar.head.cell 8) (H2.out.ar.head.frozen 8) (by decide)).mono ?_
 rintro r w' ⟨rfl, rfl⟩
 have H3 := hq9 (H2.out.head 8 (.int .u64 1) (i := 1) (j := 1) rfl)
 clear H2 x0 x3 x5
 generalize (World.setCell w2 _ _) = w3 at *
 go_wp2_with ((with_reducible show wpList _ _ _ (Oper.mk (some 47) _ _ _ _ _ :: _) _ _); refine wpList_load_part rfl 447 (.tmp 8) rfl w.heap.size 0 rfl 447 _ (H3.out.get (i := 0) rfl) [.int .i64 2, .string ⟨#[97]⟩, .string ⟨#[49]⟩, .bool false, .string ⟨#[]⟩, .int .u64 0, .int .u64 0, .int .i64 0, .int .i64 0, .int .i64 2, .int .i64 0] rfl _ Tryz.underlying447 rfl (by kernel_rfl) ?_)
 refine (HLD.out w3).mono ?_
 rintro r w4 ⟨rfl, o4⟩
 have H5 := hq9 ((H3.out.keep o4).new ((Only.refl [] w4).alloc (.cells #[.int .i64 0, .int .i64 1, .int .u64 1, .int .u64 1, .int .u64 1, .string ⟨#[97]⟩, .string ⟨#[49]⟩] 282)) (Blk.new w4 282 #[.int .i64 0, .int .i64 1, .int .u64 1, .int .u64 1, .int .u64 1, .string ⟨#[97]⟩, .string ⟨#[49]⟩]) (Nat.le_refl _))
 clear o4 H3
 have l0 := (H5.out.get (i := 1) rfl).cell 0
 have l1 := (H5.out.get (i := 1) rfl).cell 1
 have l2 := (H5.out.get (i := 1) rfl).cell 2
 have l3 := (H5.out.get (i := 1) rfl).cell 3
 have l4 := (H5.out.get (i := 1) rfl).cell 4
 have l5 := (H5.out.get (i := 1) rfl).cell 5
 have l6 := (H5.out.get (i := 1) rfl).cell 6
 go_wp2_with fail
 generalize (w4.alloc (.cells #[.int .i64 0, .int .i64 1, .int .u64 1, .int .u64 1, .int .u64 1, .string ⟨#[97]⟩, .string ⟨#[49]⟩] 282)) = w5 at *
 generalize hyb : w4.heap.size = yb at *
 generalize hxb : w.heap.size = xb at *
 clear l0 l1 l2 l3 l4 l5 l6 hyb
 refine (HEN.out w5).mono ?_
 rintro r w6 ⟨eb, eo, ec, rfl, be, hec, o6⟩
 have HEC := hq9 hec
 clear hec
 have H6 := hq9 (H5.out.keep o6)
 have BE := hq9 be
 clear be o6 H5
 have SL := run_slice_to (P := Tryz.prog) Tryz.underlying71 (show Tryz.prog.info? 5 = some _ from rfl) (some ⟨eb, eo, none⟩) 64 ec 64 HEC.out
 have h64 : (64 : Int) ≤ (ec : Int) := by have := HEC.out; omega
 have OD := hq9 (Only.refl [] w6).drew
 have HX := hq9 (show ∀ W D' B' S', ChIn w gd cb cap B W B' S' D' ([] ++ [(xb, 447, [.int .i64 2, .string ⟨#[97]⟩, .string ⟨#[49]⟩, .bool false, .string ⟨#[]⟩, .int .u64 0, .int .u64 0, .int .i64 0, .int .i64 0, .int .i64 2, .int .i64 0])] ++ [(yb, 282, [.int .i64 0, .int .i64 1, .int .u64 1, .int .u64 1, .int .u64 1, .string ⟨#[97]⟩, .string ⟨#[49]⟩])]) → W.cell? ⟨xb, 9, none⟩ = some (.int .i64 2) from fun W D' B' S' h => (h.get (i := 0) rfl).cell 9)
 have H7 := hq9 (H6.out.keep OD.out)
 have B7 := hq9 (BE.out.only0 OD.out)
 have s0 := HX.out _ _ _ _ H7.out
 clear H6 BE OD
 go_wp2_with fail
 go_region_held3 (fun w' => w'.cell? ⟨xb, 9, none⟩ = some (.int .i64 2))
  (first | (with_reducible assumption) | (with_reducible exact s0) | (with_reducible exact s1) | go_keep)
  (first
   | (go_at_call 57; (with_reducible refine (arena_Dev w6.drew H7.out.ar).mono ?_); rintro r w' ⟨rfl, rfl⟩)
   | (go_at_call 33; (with_reducible refine (nvm_Store_any gd cb cap D 2 0 (some ⟨eb, eo, none⟩) 64 ec encA w6.drew H7.out.dev B7.out (by decide)).mono ?_); rintro r w8 ⟨rfl, d8, o8⟩; have H8 := hq9 (H7.out.dev' o8 d8); have s1 := HX.out _ _ _ _ H8.out; clear d8 o8))
 clear s0 s1 SL HEN HLD B7 H7 HEC h64
 have y0 : w8.cell? ⟨yb, 0, none⟩ = some (.int .i64 0) := (H8.out.get (i := 1) rfl).cell 0
 go_wp2_with fail
 refine (class_Span 0 w8 (by decide)).mono ?_
 rintro r w' ⟨rfl, rfl⟩
 rw [show span 0 = 1 from rfl]
 clear y0
 go_wp2_with fail
 go_loopw [67] (fun vi wr => ∃ i : Nat, vi = .int .i64 i ∧ i ≤ 1 ∧ ChIn w gd cb cap B wr B ⟨done, P, now, has, (if i = 0 then C else noteC C 0 2), E, T, Ls, L, 1, 1, []⟩ (store1 D 2 0 encA) ([] ++ [(xb, 447, [.int .i64 2, .string ⟨#[97]⟩, .string ⟨#[49]⟩, .bool false, .string ⟨#[]⟩, .int .u64 0, .int .u64 0, .int .i64 0, .int .i64 0, .int .i64 2, .int .i64 0])] ++ [(yb, 282, [.int .i64 0, .int .i64 1, .int .u64 1, .int .u64 1, .int .u64 1, .string ⟨#[97]⟩, .string ⟨#[49]⟩])])) (fun vi _ => 1 - (intOf vi).toNat)
 case atStart => exact ⟨0, rfl, by omega, H8.out⟩
 case round =>
  obtain ⟨i, rfl, hi, ho⟩ := hrel
  have HN := hq9 ho
  clear ho H8
  rcases (show i = 0 ∨ i = 1 by omega) with rfl | rfl
  ·rw [if_pos rfl] at HN
   rw [show ((0 : Nat) : Int) = 0 from rfl]
   have OD := hq9 (Only.refl [] wr).drew
   have HD := hq9 (HN.out.keep OD.out)
   have HY := hq9 (show ∀ W D' B' S', ChIn w gd cb cap B W B' S' D' ([] ++ [(xb, 447, [.int .i64 2, .string ⟨#[97]⟩, .string ⟨#[49]⟩, .bool false, .string ⟨#[]⟩, .int .u64 0, .int .u64 0, .int .i64 0, .int .i64 0, .int .i64 2, .int .i64 0])] ++ [(yb, 282, [.int .i64 0, .int .i64 1, .int .u64 1, .int .u64 1, .int .u64 1, .string ⟨#[97]⟩, .string ⟨#[49]⟩])]) → W.cell? ⟨B'.a, 3, none⟩ = some (.pointer (some ⟨B'.k, 0, none⟩)) ∧ W.cell? ⟨xb, 9, none⟩ = some (.int .i64 2) from fun W D' B' S' h => ⟨h.ar.head.cell 3, (h.get (i := 0) rfl).cell 9⟩)
   have s0 := HY.out _ _ _ _ HD.out
   clear HN
   go_wp2_with fail
   refine wp_region_noPanic ?_
   refine wp_region_held_drew (S := fun w' => w'.cell? ⟨B.a, 3, none⟩ = some (.pointer (some ⟨B.k, 0, none⟩)) ∧ w'.cell? ⟨xb, 9, none⟩ = some (.int .i64 2)) (by kernel_rfl) s0 (fun hHeld => ?_)
   refine wpAnyH_take (i := 0) (oi := ⟨_, _, _, _, _, _⟩) (v := ?_) rfl (by kernel_rfl) (by kernel_rfl) (by kernel_rfl) (fun _ _ _ h => h) (Or.inl ⟨by rfl, ?_⟩) hHeld ?_
   rotate_left 1
   (intro w hSw; (try dsimp only at hSw); go_simp)
   (try with_reducible rfl)
   (try simp only [Act.put, List.setIfInBounds_toArray, List.set_cons_zero, List.set_cons_succ])
   refine wpAnyH_take (i := 1) (oi := ⟨_, _, _, _, _, _⟩) (v := ?_) rfl (by kernel_rfl) (by kernel_rfl) (by kernel_rfl) (fun _ _ _ h => h) (Or.inl ⟨by rfl, ?_⟩) hHeld ?_
   rotate_left 1
   (intro w hSw; (try dsimp only at hSw); go_simp)
   (try with_reducible rfl)
   (try simp only [Act.put, List.setIfInBounds_toArray, List.set_cons_zero, List.set_cons_succ])
   refine wpAnyH_take (i := 2) (oi := ⟨_, _, _, _, _, _⟩) (v := ?_) rfl (by kernel_rfl) (by kernel_rfl) (by kernel_rfl) (fun _ _ _ h => h) (Or.inl ⟨by rfl, ?_⟩) hHeld ?_
   rotate_left 1
   (intro w hSw; (try dsimp only at hSw); go_simp)
   (try with_reducible rfl)
   (try simp only [Act.put, List.setIfInBounds_toArray, List.set_cons_zero, List.set_cons_succ])
   refine wpAnyH_take (i := 3) (oi := ⟨_, _, _, _, _, _⟩) (v := ?_) rfl (by kernel_rfl) (by kernel_rfl) (by kernel_rfl) (fun _ _ _ h => h) (Or.inl ⟨by rfl, ?_⟩) hHeld ?_
   rotate_left 1
   (intro w hSw; (try dsimp only at hSw); go_simp)
   (try with_reducible rfl)
   (try simp only [Act.put, List.setIfInBounds_toArray, List.set_cons_zero, List.set_cons_succ])
   refine wpAnyH_take (i := 4) (oi := ⟨_, _, _, _, _, _⟩) (v := ?_) rfl (by kernel_rfl) (by kernel_rfl) (by kernel_rfl) (fun _ _ _ h => h) (Or.inl ⟨by rfl, ?_⟩) hHeld ?_
   rotate_left 1
   (intro w hSw; (try dsimp only at hSw); go_simp)
   (try with_reducible rfl)
   (try simp only [Act.put, List.setIfInBounds_toArray, List.set_cons_zero, List.set_cons_succ])
   refine wpAnyH_take (i := 5) (oi := ⟨_, _, _, _, _, _⟩) (v := ?_) rfl (by kernel_rfl) (by kernel_rfl) (by kernel_rfl) (fun _ _ _ h => h) (Or.inl ⟨by rfl, ?_⟩) hHeld ?_
   rotate_left 1
   (intro w hSw; (try dsimp only at hSw); go_simp)
   (try with_reducible rfl)
   (try simp only [Act.put, List.setIfInBounds_toArray, List.set_cons_zero, List.set_cons_succ])
   refine wpAnyH_take (i := 6) (oi := ⟨_, _, _, _, _, _⟩) (v := ?_) rfl (by kernel_rfl) (by kernel_rfl) (by kernel_rfl) (fun _ _ _ h => h) (Or.inl ⟨by rfl, ?_⟩) hHeld ?_
   rotate_left 1
   (intro w hSw; (try dsimp only at hSw); go_simp)
   (try with_reducible rfl)
   (try simp only [Act.put, List.setIfInBounds_toArray, List.set_cons_zero, List.set_cons_succ])
   refine wpAnyH_take (i := 7) (oi := ⟨_, _, _, _, _, _⟩) (v := ?_) rfl (by kernel_rfl) (by kernel_rfl) (by kernel_rfl) (fun _ _ _ h => h) (Or.inl ⟨by rfl, ?_⟩) hHeld ?_
   rotate_left 1
   (intro w hSw; (try dsimp only at hSw); go_simp)
   (try with_reducible rfl)
   (try simp only [Act.put, List.setIfInBounds_toArray, List.set_cons_zero, List.set_cons_succ])
   refine wpAnyH_take (i := 8) (oi := ⟨_, _, _, _, _, _⟩) (v := ?_) rfl (by kernel_rfl) (by kernel_rfl) (by kernel_rfl) (fun _ _ _ h => h) (Or.inl ⟨by rfl, ?_⟩) hHeld ?_
   rotate_left 1
   (intro w hSw; (try dsimp only at hSw); go_simp)
   (try with_reducible rfl)
   (try simp only [Act.put, List.setIfInBounds_toArray, List.set_cons_zero, List.set_cons_succ])
   refine wpAnyH_ready (rs := [9]) (by kernel_rfl) (by simp) ?_
   refine AllReadyH.cons (o := ⟨_, _, _, _, _, _⟩) rfl (fun K hK => ?_) AllReadyH.nil
   go_simp
   refine (clk_Note B.k B.ko C 0 2 wr.drew HD.out.ar.clk HO.out (by decide)).mono ?_
   rintro r w9 ⟨rfl, k9, o9⟩
   have H9 := hq9 (HD.out.ar' o9 (fun b hb => by simp at hb; unfold arFs; rcases hb with rfl | rfl <;> simp) (HD.out.ar.setClk o9 k9) (fun b hb => .inl hb))
   have s1 := HY.out _ _ _ _ H9.out
   clear k9 o9
   go_wp2_with fail
   refine hK.out _ _ (s1) (fun hHeld => ?_)
   clear hK K
   (try simp only [Act.put, List.setIfInBounds_toArray, List.set_cons_zero, List.set_cons_succ])
   refine wpAnyH_done (by kernel_rfl) ?_ _
   refine NoPanic.normal ?_
   (try simp only [Act.put, List.setIfInBounds_toArray, List.set_cons_zero, List.set_cons_succ])
   clear s0 s1
   go_wp2
   go_roundw
   case rel => exact ⟨1, rfl, by omega, H9.out⟩
   case measure => simp only [intOf]; omega
  ·rw [if_neg (by decide)] at HN
   have y0 : wr.cell? ⟨yb, 0, none⟩ = some (.int .i64 0) := (HN.out.get (i := 1) rfl).cell 0
   have y5 : wr.cell? ⟨yb, 5, none⟩ = some (.string ⟨#[97]⟩) := (HN.out.get (i := 1) rfl).cell 5
   have y6 : wr.cell? ⟨yb, 6, none⟩ = some (.string ⟨#[49]⟩) := (HN.out.get (i := 1) rfl).cell 6
   have x0 : wr.cell? ⟨xb, 0, none⟩ = some (.int .i64 2) := (HN.out.get (i := 0) rfl).cell 0
   have x9 : wr.cell? ⟨xb, 9, none⟩ = some (.int .i64 2) := (HN.out.get (i := 0) rfl).cell 9
   have HA := hq9 (HN.out.new ((Only.refl [] wr).alloc (.cells #[.string ⟨#[97]⟩, .int .u64 1, .int .u64 1, .int .i64 2, .int .i64 0] 70)) (Blk.new wr 70 #[.string ⟨#[97]⟩, .int .u64 1, .int .u64 1, .int .i64 2, .int .i64 0]) (Nat.le_refl _))
   have z5 : (wr.alloc (.cells #[.string ⟨#[97]⟩, .int .u64 1, .int .u64 1, .int .i64 2, .int .i64 0] 70)).cell? ⟨yb, 5, none⟩ = some (.string ⟨#[97]⟩) := (HA.out.get (i := 1) rfl).cell 5
   have z6 : (wr.alloc (.cells #[.string ⟨#[97]⟩, .int .u64 1, .int .u64 1, .int .i64 2, .int .i64 0] 70)).cell? ⟨yb, 6, none⟩ = some (.string ⟨#[49]⟩) := (HA.out.get (i := 1) rfl).cell 6
   have HE0 := hq9 (HA.out.new ((Only.refl [] _).alloc (.cells #[.int .i64 0, .string ⟨#[97]⟩, .string ⟨#[49]⟩, .int .u64 1, .int .u64 1, .int .u64 1, .int .i64 1] 182)) (Blk.new _ 182 #[.int .i64 0, .string ⟨#[97]⟩, .string ⟨#[49]⟩, .int .u64 1, .int .u64 1, .int .u64 1, .int .i64 1]) (Nat.le_refl _))
   have HE1 := hq9 (HA.out.new ((Only.refl [] _).alloc (.cells #[.int .i64 1, .string ⟨#[97]⟩, .string ⟨#[49]⟩, .int .u64 1, .int .u64 1, .int .u64 1, .int .i64 1] 182)) (Blk.new _ 182 #[.int .i64 1, .string ⟨#[97]⟩, .string ⟨#[49]⟩, .int .u64 1, .int .u64 1, .int .u64 1, .int .i64 1]) (Nat.le_refl _))
   have v0 : ((wr.alloc (.cells #[.string ⟨#[97]⟩, .int .u64 1, .int .u64 1, .int .i64 2, .int .i64 0] 70)).alloc (.cells #[.int .i64 0, .string ⟨#[97]⟩, .string ⟨#[49]⟩, .int .u64 1, .int .u64 1, .int .u64 1, .int .i64 1] 182)).cell? ⟨xb, 0, none⟩ = some (.int .i64 2) := (HE0.out.get (i := 0) rfl).cell 0
   go_wp2_with fail
   clear y0 y5 y6 x0 x9 z5 z6 v0 HE0 HA HN
   rw [show (wr.alloc (.cells #[.string ⟨#[97]⟩, .int .u64 1, .int .u64 1, .int .i64 2, .int .i64 0] 70)).heap.size = wr.heap.size + 1 from by simp] at HE1
   generalize (World.alloc (World.alloc wr _) _) = wa at *
   generalize wr.heap.size + 1 = fb at *
   generalize wr.heap.size = kb at *
   have HTS := hq9 (show ∀ W D' B' S', ChIn w gd cb cap B W B' S' D' (([] ++ [(xb, 447, [.int .i64 2, .string ⟨#[97]⟩, .string ⟨#[49]⟩, .bool false, .string ⟨#[]⟩, .int .u64 0, .int .u64 0, .int .i64 0, .int .i64 0, .int .i64 2, .int .i64 0])] ++ [(yb, 282, [.int .i64 0, .int .i64 1, .int .u64 1, .int .u64 1, .int .u64 1, .string ⟨#[97]⟩, .string ⟨#[49]⟩])]) ++ [(kb, 70, [.string ⟨#[97]⟩, .int .u64 1, .int .u64 1, .int .i64 2, .int .i64 0])] ++ [(fb, 182, [.int .i64 1, .string ⟨#[97]⟩, .string ⟨#[49]⟩, .int .u64 1, .int .u64 1, .int .u64 1, .int .i64 1])]) → S'.T.length < maxLen → Calls Tryz.prog 242 #[.pointer (some ⟨B'.t, 0, none⟩), .agg #[.string ⟨#[97]⟩, .int .u64 1, .int .u64 1, .int .i64 2, .int .i64 0]] W (fun e w' => e = .returned (.bool (hasKey S'.T [97])) ∧ TabAt w' B'.t B'.ts (ins ⟨[97], 1, 1, 2, 0⟩ S'.T) ∧ Only (B'.t :: B'.ts) W w') from fun W D' B' S' h hn => tab_Set B'.t B'.ts S'.T ⟨[97], 1, 1, 2, 0⟩ W h.ar.tab (by decide) hn)
   have HOS := hq9 (show ∀ W D' B' S', ChIn w gd cb cap B W B' S' D' (([] ++ [(xb, 447, [.int .i64 2, .string ⟨#[97]⟩, .string ⟨#[49]⟩, .bool false, .string ⟨#[]⟩, .int .u64 0, .int .u64 0, .int .i64 0, .int .i64 0, .int .i64 2, .int .i64 0])] ++ [(yb, 282, [.int .i64 0, .int .i64 1, .int .u64 1, .int .u64 1, .int .u64 1, .string ⟨#[97]⟩, .string ⟨#[49]⟩])]) ++ [(kb, 70, [.string ⟨#[97]⟩, .int .u64 1, .int .u64 1, .int .i64 2, .int .i64 0])] ++ [(fb, 182, [.int .i64 1, .string ⟨#[97]⟩, .string ⟨#[49]⟩, .int .u64 1, .int .u64 1, .int .u64 1, .int .i64 1])]) → (∀ L ∈ S'.Ls, Rising L ∧ L.length ≤ 99999) → Calls Tryz.prog 243 #[.pointer (some ⟨B'.o, 0, none⟩), .agg #[.string ⟨#[97]⟩, .int .u64 1, .int .u64 1, .int .i64 2, .int .i64 0]] W (fun e w' => ∃ b vs', e = .returned (.bool b) ∧ LevAt w' B'.o vs' (setLev (lev (crc [97])) ⟨[97], 1, 1, 2, 0⟩ S'.Ls) ∧ Only (B'.o :: ownsOf B'.ov) W w' ∧ ∀ c ∈ ownsOf vs', c ∈ ownsOf B'.ov ∨ W.heap.size ≤ c) from fun W D' B' S' h hn => order_Set B'.o B'.ov S'.Ls ⟨[97], 1, 1, 2, 0⟩ W h.ar.ord hn (by decide))
   have HY := hq9 (show ∀ W D' B' S', ChIn w gd cb cap B W B' S' D' (([] ++ [(xb, 447, [.int .i64 2, .string ⟨#[97]⟩, .string ⟨#[49]⟩, .bool false, .string ⟨#[]⟩, .int .u64 0, .int .u64 0, .int .i64 0, .int .i64 0, .int .i64 2, .int .i64 0])] ++ [(yb, 282, [.int .i64 0, .int .i64 1, .int .u64 1, .int .u64 1, .int .u64 1, .string ⟨#[97]⟩, .string ⟨#[49]⟩])]) ++ [(kb, 70, [.string ⟨#[97]⟩, .int .u64 1, .int .u64 1, .int .i64 2, .int .i64 0])] ++ [(fb, 182, [.int .i64 1, .string ⟨#[97]⟩, .string ⟨#[49]⟩, .int .u64 1, .int .u64 1, .int .u64 1, .int .i64 1])]) → W.cell? ⟨B'.a, 5, none⟩ = some (.pointer (some ⟨B'.t, 0, none⟩)) ∧ W.cell? ⟨B'.a, 6, none⟩ = some (.pointer (some ⟨B'.o, 0, none⟩)) ∧ W.cell? ⟨kb, 0, none⟩ = some (.string ⟨#[97]⟩) ∧ W.cell? ⟨kb, 1, none⟩ = some (.int .u64 1) ∧ W.cell? ⟨kb, 2, none⟩ = some (.int .u64 1) ∧ W.cell? ⟨kb, 3, none⟩ = some (.int .i64 2) ∧ W.cell? ⟨kb, 4, none⟩ = some (.int .i64 0) from fun W D' B' S' h => ⟨h.ar.head.cell 5, h.ar.head.cell 6, (h.get (i := 2) rfl).cell 0, (h.get (i := 2) rfl).cell 1, (h.get (i := 2) rfl).cell 2, (h.get (i := 2) rfl).cell 3, (h.get (i := 2) rfl).cell 4⟩)
   have OD := hq9 (Only.refl [] wa).drew
   have HD := hq9 (HE1.out.keep OD.out)
   have s0 := HY.out _ _ _ _ HD.out
   clear HE1 OD
   go_region_held3 (fun w' => w'.cell? ⟨B.a, 5, none⟩ = some (.pointer (some ⟨B.t, 0, none⟩)) ∧ w'.cell? ⟨kb, 0, none⟩ = some (.string ⟨#[97]⟩) ∧ w'.cell? ⟨kb, 1, none⟩ = some (.int .u64 1) ∧ w'.cell? ⟨kb, 2, none⟩ = some (.int .u64 1) ∧ w'.cell? ⟨kb, 3, none⟩ = some (.int .i64 2) ∧ w'.cell? ⟨kb, 4, none⟩ = some (.int .i64 0))
    (first | (with_reducible assumption) | (with_reducible exact s0) | (with_reducible exact s1) | go_keep)
    (first
     | (go_at_call 242; (with_reducible refine (HTS.out _ _ _ _ HD.out HT.out).mono ?_); rintro r wb ⟨rfl, t9, o9⟩; have H9 := hq9 (HD.out.tab o9 t9); have s1 := HY.out _ _ _ _ H9.out; clear t9 o9))
   clear s0 s1 HD
   have OD := hq9 (Only.refl [] wb).drew
   have HD := hq9 (H9.out.keep OD.out)
   have s0 := HY.out _ _ _ _ HD.out
   clear H9 OD
   go_wp2_with fail
   go_region_held3 (fun w' => w'.cell? ⟨B.a, 6, none⟩ = some (.pointer (some ⟨B.o, 0, none⟩)) ∧ w'.cell? ⟨kb, 0, none⟩ = some (.string ⟨#[97]⟩) ∧ w'.cell? ⟨kb, 1, none⟩ = some (.int .u64 1) ∧ w'.cell? ⟨kb, 2, none⟩ = some (.int .u64 1) ∧ w'.cell? ⟨kb, 3, none⟩ = some (.int .i64 2) ∧ w'.cell? ⟨kb, 4, none⟩ = some (.int .i64 0))
    (first | (with_reducible assumption) | (with_reducible exact s0) | (with_reducible exact s1) | go_keep)
    (first
     | (go_at_call 243; (with_reducible refine (HOS.out _ _ _ _ HD.out HR.out).mono ?_); rintro r wc ⟨b9, ov9, rfl, t9, o9, n9⟩; have H9 := hq9 (HD.out.ord o9 t9 n9); have s1 := HY.out _ _ _ _ H9.out; clear t9 o9 n9))
   clear s0 s1 HD HTS HOS HY HX
   have x3 : wc.cell? ⟨xb, 3, none⟩ = some (.bool false) := (H9.out.get (i := 0) rfl).cell 3
   go_wp2_with fail
   clear x3
   have HY := hq9 (show ∀ W D' B' S', ChIn w gd cb cap B W B' S' D' (([] ++ [(xb, 447, [.int .i64 2, .string ⟨#[97]⟩, .string ⟨#[49]⟩, .bool false, .string ⟨#[]⟩, .int .u64 0, .int .u64 0, .int .i64 0, .int .i64 0, .int .i64 2, .int .i64 0])] ++ [(yb, 282, [.int .i64 0, .int .i64 1, .int .u64 1, .int .u64 1, .int .u64 1, .string ⟨#[97]⟩, .string ⟨#[49]⟩])]) ++ [(kb, 70, [.string ⟨#[97]⟩, .int .u64 1, .int .u64 1, .int .i64 2, .int .i64 0])] ++ [(fb, 182, [.int .i64 1, .string ⟨#[97]⟩, .string ⟨#[49]⟩, .int .u64 1, .int .u64 1, .int .u64 1, .int .i64 1])]) → W.cell? ⟨B'.a, 10, none⟩ = some B'.ev ∧ W.cell? ⟨fb, 0, none⟩ = some (.int .i64 1) ∧ W.cell? ⟨fb, 1, none⟩ = some (.string ⟨#[97]⟩) ∧ W.cell? ⟨fb, 2, none⟩ = some (.string ⟨#[49]⟩) ∧ W.cell? ⟨fb, 3, none⟩ = some (.int .u64 1) ∧ W.cell? ⟨fb, 4, none⟩ = some (.int .u64 1) ∧ W.cell? ⟨fb, 5, none⟩ = some (.int .u64 1) ∧ W.cell? ⟨fb, 6, none⟩ = some (.int .i64 1) from fun W D' B' S' h => ⟨h.ar.head.cell 10, (h.get (i := 3) rfl).cell 0, (h.get (i := 3) rfl).cell 1, (h.get (i := 3) rfl).cell 2, (h.get (i := 3) rfl).cell 3, (h.get (i := 3) rfl).cell 4, (h.get (i := 3) rfl).cell 5, (h.get (i := 3) rfl).cell 6⟩)
   have OD := hq9 (Only.refl [] wc).drew
   have OZ := hq9 ((Only.refl [] wc).alloc (.cells #[.int .i64 1, .string ⟨#[97]⟩, .string ⟨#[49]⟩, .int .u64 1, .int .u64 1, .int .u64 1, .int .i64 1] 182)).drew
   have HD := hq9 (H9.out.keep OD.out)
   have HZ := hq9 (H9.out.keep OZ.out)
   have s0 := HY.out _ _ _ _ HD.out
   have sA := HY.out _ _ _ _ HZ.out
   have BZ := hq9 (show Blk (wc.alloc (.cells #[.int .i64 1, .string ⟨#[97]⟩, .string ⟨#[49]⟩, .int .u64 1, .int .u64 1, .int .u64 1, .int .i64 1] 182)).drew wc.heap.size 182 (effC (⟨1, [97], [49], 1, 1, 1, 1⟩ : Eff)).toArray from Blk.drew (Blk.new wc 182 #[.int .i64 1, .string ⟨#[97]⟩, .string ⟨#[49]⟩, .int .u64 1, .int .u64 1, .int .u64 1, .int .i64 1]))
   obtain ⟨ev9, wd, hrun, hrow, oapp, hnew⟩ := push_eff (x := (⟨1, [97], [49], 1, 1, 1, 1⟩ : Eff)) HZ.out.ar.eff (by show ([] : List Eff).length ≤ 1000000; decide) (Sl.of_blk BZ.out 0 (by rfl) (by decide))
   obtain ⟨A9, c9, hv9, _, _⟩ := hrow.slice
   replace hv9 : ev9 = .slice A9 1 c9 := hv9
   subst hv9
   have HV := hq9 (HZ.out.ev1 oapp hrow hnew)
   have HE := hq9 (HZ.out.eff oapp hrow hnew)
   have sF := HY.out _ _ _ _ HE.out
   have sD : wd.cell? ⟨fb, 0, none⟩ = some (.int .i64 1) ∧ wd.cell? ⟨fb, 1, none⟩ = some (.string ⟨#[97]⟩) ∧ wd.cell? ⟨fb, 2, none⟩ = some (.string ⟨#[49]⟩) ∧ wd.cell? ⟨fb, 3, none⟩ = some (.int .u64 1) ∧ wd.cell? ⟨fb, 4, none⟩ = some (.int .u64 1) ∧ wd.cell? ⟨fb, 5, none⟩ = some (.int .u64 1) ∧ wd.cell? ⟨fb, 6, none⟩ = some (.int .i64 1) := by
    have hx := HV.out.2 (fb, 182, [.int .i64 1, .string ⟨#[97]⟩, .string ⟨#[49]⟩, .int .u64 1, .int .u64 1, .int .u64 1, .int .i64 1]) (by simp)
    exact ⟨hx.cell 0, hx.cell 1, hx.cell 2, hx.cell 3, hx.cell 4, hx.cell 5, hx.cell 6⟩
   have c0 : wc.drew.cell? ⟨B.a, 10, none⟩ = some B.ev := s0.1
   have cZ : (wc.alloc (.cells #[.int .i64 1, .string ⟨#[97]⟩, .string ⟨#[49]⟩, .int .u64 1, .int .u64 1, .int .u64 1, .int .i64 1] 182)).drew.cell? ⟨B.a, 10, none⟩ = some B.ev := sA.1
   have cD : wd.cell? ⟨B.a, 10, none⟩ = some B.ev := HV.out.1.cell 10
   have zD : wd.frozen? ⟨B.a, 10, none⟩ = false := HV.out.1.frozen 10
   have HRG := hq9 (show ∀ W, Blk W fb 182 #[.int .i64 1, .string ⟨#[97]⟩, .string ⟨#[49]⟩, .int .u64 1, .int .u64 1, .int .u64 1, .int .i64 1] → W.rangeAt fb 0 [.int .i64 1, .string ⟨#[97]⟩, .string ⟨#[49]⟩, .int .u64 1, .int .u64 1, .int .u64 1, .int .i64 1] from fun W hb => blk_range hb 0 [.int .i64 1, .string ⟨#[97]⟩, .string ⟨#[49]⟩, .int .u64 1, .int .u64 1, .int .u64 1, .int .i64 1] (fun j v hj => by simpa using hj))
   have r0 := HRG.out _ (HD.out.get (i := 3) rfl)
   have rA := HRG.out _ (HZ.out.get (i := 3) rfl)
   have rD := HRG.out _ (HV.out.2 (fb, 182, [.int .i64 1, .string ⟨#[97]⟩, .string ⟨#[49]⟩, .int .u64 1, .int .u64 1, .int .u64 1, .int .i64 1]) (by simp))
   have rF := HRG.out _ (HE.out.get (i := 3) rfl)
   clear hrow oapp hnew s0 sA HRG HY
   refine wp_region_noPanic ?_
   refine wp_region_held_drew (S := fun W => W.rangeAt fb 0 [.int .i64 1, .string ⟨#[97]⟩, .string ⟨#[49]⟩, .int .u64 1, .int .u64 1, .int .u64 1, .int .i64 1]) (by kernel_rfl) r0 (fun hHeld => ?_)
   refine wpAnyH_take (i := 0) (oi := ⟨_, _, _, _, _, _⟩) (v := ?_) rfl (by kernel_rfl) (by kernel_rfl) (by kernel_rfl) (fun _ _ _ h => h) (Or.inl ⟨by rfl, ?_⟩) hHeld ?_
   rotate_left 1
   (intro w hSw; (try dsimp only at hSw); go_simp)
   (try with_reducible rfl)
   (try simp only [Act.put, List.setIfInBounds_toArray, List.set_cons_zero, List.set_cons_succ])
   refine wpAnyH_take (i := 1) (oi := ⟨_, _, _, _, _, _⟩) (v := ?_) rfl (by kernel_rfl) (by kernel_rfl) (by kernel_rfl) (fun _ _ _ h => h) (Or.inl ⟨by rfl, ?_⟩) hHeld ?_
   rotate_left 1
   (intro w hSw; (try dsimp only at hSw); go_simp)
   (try with_reducible rfl)
   (try simp only [Act.put, List.setIfInBounds_toArray, List.set_cons_zero, List.set_cons_succ])
   refine wpAnyH_take (i := 2) (oi := ⟨_, _, _, _, _, _⟩) (v := ?_) rfl (by kernel_rfl) (by kernel_rfl) (by kernel_rfl) (fun _ _ _ h => h) (Or.inl ⟨by rfl, ?_⟩) hHeld ?_
   rotate_left 1
   (intro w hSw; (try dsimp only at hSw); go_simp)
   (try with_reducible rfl)
   (try simp only [Act.put, List.setIfInBounds_toArray, List.set_cons_zero, List.set_cons_succ])
   refine wpAnyH_take (i := 3) (oi := ⟨_, _, _, _, _, _⟩) (v := ?_) rfl (by kernel_rfl) (by kernel_rfl) (by kernel_rfl) (fun _ _ _ h => h) (Or.inl ⟨by rfl, ?_⟩) hHeld ?_
   rotate_left 1
   (intro w hSw; (try dsimp only at hSw); go_simp)
   (try with_reducible rfl)
   (try simp only [Act.put, List.setIfInBounds_toArray, List.set_cons_zero, List.set_cons_succ])
   refine wpAnyH_take (i := 5) (oi := ⟨_, _, _, _, _, _⟩) (v := _) rfl (by kernel_rfl) (by kernel_rfl) (by kernel_rfl) (fun _ _ _ h => h) (yieldsIf_load_mid (by rfl) 182 (.tmp 18) rfl fb 0 rfl [.int .i64 1, .string ⟨#[97]⟩, .string ⟨#[49]⟩, .int .u64 1, .int .u64 1, .int .u64 1, .int .i64 1] _ (fun w h => h) Tryz.underlying182 rfl (by kernel_rfl)) hHeld ?_
   (try simp only [Act.put, List.setIfInBounds_toArray, List.set_cons_zero, List.set_cons_succ])
   refine wpAnyH_ready (rs := [4, 6]) (by kernel_rfl) (by simp) ?_
   refine AllReadyH.cons (o := _) rfl (fun K hK => ?_) (AllReadyH.cons (o := _) rfl (fun K hK => ?_) AllReadyH.nil)
   ·go_simp
    refine hK.out _ _ (r0) (fun hHeld => ?_)
    clear hK K
    (try simp only [Act.put, List.setIfInBounds_toArray, List.set_cons_zero, List.set_cons_succ])
    refine wpAnyH_ready (rs := [6]) (by kernel_rfl) (by simp) ?_
    refine AllReadyH.cons (o := ⟨_, _, _, _, _, _⟩) rfl (fun K hK => ?_) AllReadyH.nil
    go_simp
    refine hK.out _ _ (rA) (fun hHeld => ?_)
    clear hK K
    (try simp only [Act.put, List.setIfInBounds_toArray, List.set_cons_zero, List.set_cons_succ])
    refine wpAnyH_ready (rs := [7]) (by kernel_rfl) (by simp) ?_
    refine AllReadyH.cons (o := ⟨_, _, _, _, _, _⟩) rfl (fun K hK => ?_) AllReadyH.nil
    rw [if_pos (by rfl)]
    refine wp_append_run (.tmp 188) (.tmp 190) 105 rfl _ _ rfl rfl _ _ hrun ?_
    refine hK.out _ _ (rD) (fun hHeld => ?_)
    clear hK K
    (try simp only [Act.put, List.setIfInBounds_toArray, List.set_cons_zero, List.set_cons_succ])
    refine wpAnyH_take (i := 8) (oi := ⟨_, _, _, _, _, _⟩) (v := ?_) rfl (by kernel_rfl) (by kernel_rfl) (by kernel_rfl) (fun _ _ _ h => h) (Or.inl ⟨by rfl, ?_⟩) hHeld ?_
    rotate_left 1
    (intro w hSw; (try dsimp only at hSw); go_simp)
    (try with_reducible rfl)
    (try simp only [Act.put, List.setIfInBounds_toArray, List.set_cons_zero, List.set_cons_succ])
    refine wpAnyH_take (i := 9) (oi := ⟨_, _, _, _, _, _⟩) (v := ?_) rfl (by kernel_rfl) (by kernel_rfl) (by kernel_rfl) (fun _ _ _ h => h) (Or.inl ⟨by rfl, ?_⟩) hHeld ?_
    rotate_left 1
    (intro w hSw; (try dsimp only at hSw); go_simp)
    (try with_reducible rfl)
    (try simp only [Act.put, List.setIfInBounds_toArray, List.set_cons_zero, List.set_cons_succ])
    refine wpAnyH_ready (rs := [10]) (by kernel_rfl) (by simp) ?_
    refine AllReadyH.cons (o := ⟨_, _, _, _, _, _⟩) rfl (fun K hK => ?_) AllReadyH.nil
    go_simp
    refine hK.out _ _ (rF) (fun hHeld => ?_)
    clear hK K
    (try simp only [Act.put, List.setIfInBounds_toArray, List.set_cons_zero, List.set_cons_succ])
    refine wpAnyH_done (by kernel_rfl) ?_ _
    refine NoPanic.normal ?_
    (try simp only [Act.put, List.setIfInBounds_toArray, List.set_cons_zero, List.set_cons_succ])
    clear c0 cZ cD zD r0 rA rD rF HZ HD H9 HV
    go_wp2
    go_ret
    exact ⟨rfl, ov9, _, HE.out.drop⟩
   ·go_simp
    refine hK.out _ _ (rA) (fun hHeld => ?_)
    clear hK K
    (try simp only [Act.put, List.setIfInBounds_toArray, List.set_cons_zero, List.set_cons_succ])
    refine wpAnyH_ready (rs := [4]) (by kernel_rfl) (by simp) ?_
    refine AllReadyH.cons (o := ⟨_, _, _, _, _, _⟩) rfl (fun K hK => ?_) AllReadyH.nil
    go_simp
    refine hK.out _ _ (rA) (fun hHeld => ?_)
    clear hK K
    (try simp only [Act.put, List.setIfInBounds_toArray, List.set_cons_zero, List.set_cons_succ])
    refine wpAnyH_ready (rs := [7]) (by kernel_rfl) (by simp) ?_
    refine AllReadyH.cons (o := ⟨_, _, _, _, _, _⟩) rfl (fun K hK => ?_) AllReadyH.nil
    rw [if_pos (by rfl)]
    refine wp_append_run (.tmp 188) (.tmp 190) 105 rfl _ _ rfl rfl _ _ hrun ?_
    refine hK.out _ _ (rD) (fun hHeld => ?_)
    clear hK K
    (try simp only [Act.put, List.setIfInBounds_toArray, List.set_cons_zero, List.set_cons_succ])
    refine wpAnyH_take (i := 8) (oi := ⟨_, _, _, _, _, _⟩) (v := ?_) rfl (by kernel_rfl) (by kernel_rfl) (by kernel_rfl) (fun _ _ _ h => h) (Or.inl ⟨by rfl, ?_⟩) hHeld ?_
    rotate_left 1
    (intro w hSw; (try dsimp only at hSw); go_simp)
    (try with_reducible rfl)
    (try simp only [Act.put, List.setIfInBounds_toArray, List.set_cons_zero, List.set_cons_succ])
    refine wpAnyH_take (i := 9) (oi := ⟨_, _, _, _, _, _⟩) (v := ?_) rfl (by kernel_rfl) (by kernel_rfl) (by kernel_rfl) (fun _ _ _ h => h) (Or.inl ⟨by rfl, ?_⟩) hHeld ?_
    rotate_left 1
    (intro w hSw; (try dsimp only at hSw); go_simp)
    (try with_reducible rfl)
    (try simp only [Act.put, List.setIfInBounds_toArray, List.set_cons_zero, List.set_cons_succ])
    refine wpAnyH_ready (rs := [10]) (by kernel_rfl) (by simp) ?_
    refine AllReadyH.cons (o := ⟨_, _, _, _, _, _⟩) rfl (fun K hK => ?_) AllReadyH.nil
    go_simp
    refine hK.out _ _ (rF) (fun hHeld => ?_)
    clear hK K
    (try simp only [Act.put, List.setIfInBounds_toArray, List.set_cons_zero, List.set_cons_succ])
    refine wpAnyH_done (by kernel_rfl) ?_ _
    refine NoPanic.normal ?_
    (try simp only [Act.put, List.setIfInBounds_toArray, List.set_cons_zero, List.set_cons_succ])
    clear c0 cZ cD zD r0 rA rD rF HZ HD H9 HV
    go_wp2
    go_ret
    exact ⟨rfl, ov9, _, HE.out.drop⟩
end Go.Proofs.YtlggichakafkiaaGreat
namespace Go.Proofs.YtlggichakafkiaaGreat
open Go.BigFrame Go.RowKit Go.Proofs.FuMem Go.Proofs.FuTop Go.Proofs.FuNvm Go.Proofs.FuPool Go.Proofs.FuClk Go.Proofs.FuBlock Go.Proofs.FuClass Go.Proofs.FuCrc
set_option maxRecDepth 100000
theorem ChIn.trans {w0 w1 w2 : World} {gd cb cap : Nat} {B0 B B' : ArB} {S S' : ArS} {D D' : Dev} {X : List (Nat × TypeId × List Value)} (h1 : ChIn w0 gd cb cap B0 w1 B S D X) (h2 : ChIn w1 gd cb cap B w2 B' S' D' []) : ChIn w0 gd cb cap B0 w2 B' S' D' X := by
 have hs := h1.only.size
 refine ⟨h2.ar, h2.dev, fun x hx => ⟨(h1.x x hx).1.only h2.only (fun hm => ?_), (h1.x x hx).2.1, fun hm => ?_⟩, h1.only.trans h2.only (fun b hb => ?_), fun b hb => ?_, h2.gd0, h2.cb0, h1.lo⟩
 ·have := (h1.x x hx).2.1
  have := h1.lo
  unfold turnT at hm
  simp only [List.mem_cons] at hm
  rcases hm with h | h | h
  ·omega
  ·omega
  ·exact (h1.x x hx).2.2 h
 ·rcases h2.own _ hm with h | h
  ·exact (h1.x x hx).2.2 h
  ·have := (h1.x x hx).1.lt; omega
 ·unfold turnT at hb ⊢
  simp only [List.mem_cons] at hb ⊢
  rcases hb with h | h | h
  ·exact .inl (.inl h)
  ·exact .inl (.inr (.inl h))
  ·rcases h1.own b h with h | h
   ·exact .inl (.inr (.inr h))
   ·exact .inr h
 ·rcases h2.own b hb with h | h
  ·exact h1.own b h
  ·exact .inr (by omega)
theorem ChIn.again {w0 w : World} {gd cb cap : Nat} {B0 B : ArB} {S : ArS} {D : Dev} {X : List (Nat × TypeId × List Value)} (h : ChIn w0 gd cb cap B0 w B S D X) : ChIn w gd cb cap B w B S D [] :=
 ChIn.start h.ar h.dev h.gd0 h.cb0 ⟨Nat.lt_of_lt_of_le h.lo.1 h.only.size, Nat.lt_of_lt_of_le h.lo.2 h.only.size⟩
theorem Blk.newL (w : World) (t : TypeId) (a : Array Value) : Blk (w.alloc (.cells a t)) w.heap.size t a.toList.toArray := by
 rw [Array.toArray_toList]
 exact Blk.new w t a
set_option maxHeartbeats 4000000 in
theorem arena_Publish (gd cb cap lb : Nat) (B : ArB) (S : ArS) (D : Dev) (w : World) (h : ChIn w gd cb cap B w B S D []) (hl : Blk w lb 447 chC.toArray) (hT : S.T = []) (hL : S.L = []) (hE : S.E = []) (hP : S.P = takeP (newPool 2) 0) (hok : Ok S.P) (hid : S.id = 0) (hver : S.ver = 0) (hF : S.F = []) (ho : 1 ≤ S.C.owed.length) (hnow : S.C.now = 1) (hr : ∀ L ∈ S.Ls, Rising L ∧ L.length ≤ 99999) :
  Calls Tryz.prog 321 #[.pointer (some ⟨B.a, 0, none⟩), .int .i64 0, .int .u64 1, .slice (some ⟨lb, 0, none⟩) 1 1] w fun e w' => ∃ b c cs ov ev, e = .returned (.tuple #[.slice (some ⟨b, 0, none⟩) 1 c, .int .i64 0]) ∧ cs[0]? = some (.bool false) ∧ ChIn w gd cb cap B w' { B with ov := ov, ev := ev } (putS S) (store1 D 2 0 encA) [(b, 4, cs)] := by
 have H := hq9 h
 have HL := hq9 hl
 have HB := hq9 (show ∀ W, Only [] w W → W.cell? ⟨B.a, 3, none⟩ = some (.pointer (some ⟨B.k, 0, none⟩)) from fun W o => (h.keep o).ar.head.cell 3)
 have HOW := hq9 (fun W (o : Only [] w W) => clk_Owed B.k B.ko S.C W (h.keep o).ar.clk)
 have HOL := hq9 ho
 have HNW := hq9 (fun W (o : Only [] w W) => clk_Now B.k B.ko S.C W (h.keep o).ar.clk)
 rw [hnow] at HNW
 have HSH := hq9 (fun W (o : Only [] w W) => arena_shaped lb W (hl.only o (by simp)))
 have HFO := hq9 (fun W (o : Only [] w W) => arena_found gd B S W (h.keep o).ar hT)
 have HHE := hq9 (fun W (o : Only [] w W) => arena_held gd B S lb W (h.keep o).ar (hl.only o (by simp)) hT hL hE hP hok)
 have HFI := hq9 (fun W (o : Only [] w W) => arena_fits gd B S lb W (h.keep o).ar (hl.only o (by simp)) hid hver)
 have HND := hq9 arena_needs
 have HCH := hq9 (fun W (h : ChIn W gd cb cap B W B S D []) => arena_change gd cb cap B S D W h hid hver hF (by rw [hT]; decide) ho hr)
 clear h hl hT hL hE hP hok hid hver hF ho hnow hr
 have c3 := HB.out w (Only.refl _ _)
 unfold chC at *
 go_enter Tryz.func321, Tryz.ntmps321
 go_wp2_with fail
 refine (HOW.out w (Only.refl _ _)).mono ?_
 rintro r w1 ⟨v1, rfl, hm1⟩
 obtain ⟨A1, c1, rfl, _, o1⟩ := hm1
 have O1 := hq9 o1
 clear o1 c3 HOW
 have hge : ¬ ((S.C.owed.length : Int) ≤ 0) := by have := HOL.out; omega
 generalize S.C.owed.length = n1 at *
 go_wp2_with fail
 refine (HSH.out w1 O1.out).mono ?_
 rintro r w2 ⟨rfl, o2⟩
 have O2 := hq9 (O1.out.trans0 o2)
 clear o2 hge HSH
 have c3 := HB.out w2 O2.out
 go_wp2_with fail
 refine (HNW.out w2 O2.out).mono ?_
 rintro r w' ⟨rfl, rfl⟩
 clear c3
 go_wp2_with fail
 go_loopw [48] (fun vi wr => ∃ i : Nat, vi = .int .i64 i ∧ i ≤ 1 ∧ Only [] w wr) (fun vi _ => 1 - (intOf vi).toNat)
 case atStart => exact ⟨0, rfl, by omega, O2.out⟩
 case round =>
  obtain ⟨i, rfl, hi, ho⟩ := hrel
  have ON := hq9 ho
  have HW := hq9 (HL.out.only ho (by simp))
  clear ho
  rcases (show i = 0 ∨ i = 1 by omega) with rfl | rfl
  ·have OX := hq9 (ON.out.trans0 ((Only.refl [] wr).alloc (.cells #[.int .i64 2, .string ⟨#[97]⟩, .string ⟨#[49]⟩, .bool false, .string ⟨#[]⟩, .int .u64 0, .int .u64 0, .int .i64 0, .int .i64 0, .int .i64 2, .int .i64 0] 447)))
   have BX := hq9 (Blk.new wr 447 #[.int .i64 2, .string ⟨#[97]⟩, .string ⟨#[49]⟩, .bool false, .string ⟨#[]⟩, .int .u64 0, .int .u64 0, .int .i64 0, .int .i64 0, .int .i64 2, .int .i64 0])
   rw [show ((0 : Nat) : Int) = 0 from rfl]
   go_wp2_with (first | ((with_reducible show wpList _ _ _ (Oper.mk (some 51) _ _ _ _ _ :: _) _ _); refine wpList_load_part rfl 447 (.tmp 50) rfl lb 0 rfl 447 _ HW.out [.int .i64 2, .string ⟨#[97]⟩, .string ⟨#[49]⟩, .bool false, .string ⟨#[]⟩, .int .u64 0, .int .u64 0, .int .i64 0, .int .i64 0, .int .i64 2, .int .i64 0] rfl _ Tryz.underlying447 rfl (by kernel_rfl) ?_) | ((with_reducible show wpList _ _ _ (Oper.mk (some 53) _ _ _ _ _ :: _) _ _); refine wpList_load_part rfl 447 (.tmp 11) rfl wr.heap.size 0 rfl 447 _ BX.out [.int .i64 2, .string ⟨#[97]⟩, .string ⟨#[49]⟩, .bool false, .string ⟨#[]⟩, .int .u64 0, .int .u64 0, .int .i64 0, .int .i64 0, .int .i64 2, .int .i64 0] rfl _ Tryz.underlying447 rfl (by kernel_rfl) ?_))
   generalize (wr.alloc (.cells #[.int .i64 2, .string ⟨#[97]⟩, .string ⟨#[49]⟩, .bool false, .string ⟨#[]⟩, .int .u64 0, .int .u64 0, .int .i64 0, .int .i64 0, .int .i64 2, .int .i64 0] 447)) = w3 at *
   refine (HFO.out w3 OX.out).mono ?_
   rintro r w4 ⟨rfl, o4⟩
   have O4 := hq9 (OX.out.trans0 o4)
   clear o4 BX OX
   go_wp2
   go_roundw
   case rel => exact ⟨1, rfl, by omega, O4.out⟩
   case measure => simp only [intOf]; omega
  ·go_wp2_with fail
   refine (HHE.out wr ON.out).mono ?_
   rintro r w3 ⟨rfl, o3⟩
   have O3 := hq9 (ON.out.trans0 o3)
   clear o3 ON HW
   go_wp2_with fail
   refine (HFI.out w3 O3.out).mono ?_
   rintro r w4 ⟨rfl, o4⟩
   have O4 := hq9 (O3.out.trans0 o4)
   clear o4 O3
   go_wp2_with fail
   go_loopw [13, 14, 70] (fun v13 v14 vi wr => (vi = .int .i64 0 ∧ v13 = .slice none 0 0 ∧ v14 = .int .u64 0 ∧ Only [] w wr) ∨ (vi = .int .i64 1 ∧ ∃ b c cs ov ev, v13 = .slice (some ⟨b, 0, none⟩) 1 c ∧ cs[0]? = some (.bool false) ∧ ChIn w gd cb cap B wr { B with ov := ov, ev := ev } (putS S) (store1 D 2 0 encA) [(b, 4, cs)])) (fun _ _ vi _ => 1 - (intOf vi).toNat)
   case atStart => exact .inl ⟨rfl, rfl, rfl, O4.out⟩
   case round =>
    clear O4
    rcases hrel with ⟨rfl, rfl, rfl, ho⟩ | ⟨rfl, b, c, cs, ov, ev, rfl, hcs, hch⟩
    ·have ON := hq9 ho
     have HW := hq9 (HL.out.only ho (by simp))
     have OX := hq9 (ho.trans0 ((Only.refl [] wr).alloc (.cells #[.int .i64 2, .string ⟨#[97]⟩, .string ⟨#[49]⟩, .bool false, .string ⟨#[]⟩, .int .u64 0, .int .u64 0, .int .i64 0, .int .i64 0, .int .i64 2, .int .i64 0] 447)))
     have BX := hq9 (Blk.new wr 447 #[.int .i64 2, .string ⟨#[97]⟩, .string ⟨#[49]⟩, .bool false, .string ⟨#[]⟩, .int .u64 0, .int .u64 0, .int .i64 0, .int .i64 0, .int .i64 2, .int .i64 0])
     have OY := hq9 ((Only.refl [] (wr.alloc (.cells #[.int .i64 2, .string ⟨#[97]⟩, .string ⟨#[49]⟩, .bool false, .string ⟨#[]⟩, .int .u64 0, .int .u64 0, .int .i64 0, .int .i64 0, .int .i64 2, .int .i64 0] 447))).alloc (.cells #[.bool false] 4))
     have HN := hq9 (show ∀ Z : Array Value, ChIn w gd cb cap B ((((wr.alloc (.cells #[.int .i64 2, .string ⟨#[97]⟩, .string ⟨#[49]⟩, .bool false, .string ⟨#[]⟩, .int .u64 0, .int .u64 0, .int .i64 0, .int .i64 0, .int .i64 2, .int .i64 0] 447)).alloc (.cells #[.bool false] 4)).alloc (.cells (#[Value.bool false] ++ Z) 4)).drew) B S D [(wr.heap.size + 1 + 1, 4, (#[Value.bool false] ++ Z).toList)] from fun Z => by
      have q : ((wr.alloc (.cells #[.int .i64 2, .string ⟨#[97]⟩, .string ⟨#[49]⟩, .bool false, .string ⟨#[]⟩, .int .u64 0, .int .u64 0, .int .i64 0, .int .i64 0, .int .i64 2, .int .i64 0] 447)).alloc (.cells #[.bool false] 4)).heap.size = wr.heap.size + 1 + 1 := by simp
      rw [← q]
      exact (((H.out.keep OX.out).keep OY.out).new (((Only.refl [] _).alloc (.cells (#[Value.bool false] ++ Z) 4)).drew) (Blk.drew (Blk.newL _ 4 (#[Value.bool false] ++ Z))) (Nat.le_refl _)))
     have BX5 := hq9 (fun Z : Array Value => (BX.out.only OY.out (by simp)).only (((Only.refl [] _).alloc (.cells (#[Value.bool false] ++ Z) 4)).drew) (by simp))
     have x3 : (wr.alloc (.cells #[.int .i64 2, .string ⟨#[97]⟩, .string ⟨#[49]⟩, .bool false, .string ⟨#[]⟩, .int .u64 0, .int .u64 0, .int .i64 0, .int .i64 0, .int .i64 2, .int .i64 0] 447)).cell? ⟨wr.heap.size, 3, none⟩ = some (.bool false) := BX.out.cell 3
     go_wp2_with (first | ((with_reducible show wpList _ _ _ (Oper.mk (some 73) _ _ _ _ _ :: _) _ _); refine wpList_load_part rfl 447 (.tmp 72) rfl lb 0 rfl 447 _ HW.out [.int .i64 2, .string ⟨#[97]⟩, .string ⟨#[49]⟩, .bool false, .string ⟨#[]⟩, .int .u64 0, .int .u64 0, .int .i64 0, .int .i64 0, .int .i64 2, .int .i64 0] rfl _ Tryz.underlying447 rfl (by kernel_rfl) ?_) | ((with_reducible show wpList _ _ _ (Oper.mk (some 84) _ _ _ _ _ :: _) _ _); refine wpList_load_part rfl 447 (.tmp 16) rfl wr.heap.size 0 rfl 447 _ (BX5.out _) [.int .i64 2, .string ⟨#[97]⟩, .string ⟨#[49]⟩, .bool false, .string ⟨#[]⟩, .int .u64 0, .int .u64 0, .int .i64 0, .int .i64 0, .int .i64 2, .int .i64 0] rfl _ Tryz.underlying447 rfl (by kernel_rfl) ?_))
     have HNZ := hq9 (HN.out (Builtin.zeroCells #[.bool false] ((Question.appendCap 1 0 4).cut (wr.tape wr.drawn (Question.appendCap 1 0 4)) - 1)))
     have BXZ := hq9 (BX5.out (Builtin.zeroCells #[.bool false] ((Question.appendCap 1 0 4).cut (wr.tape wr.drawn (Question.appendCap 1 0 4)) - 1)))
     generalize Builtin.zeroCells _ _ = Z at *
     generalize Question.cut _ _ = c at *
     clear HN BX5
     generalize (World.drew (World.alloc (World.alloc (World.alloc wr _) _) _)) = w5 at *
     refine (HND.out w5).mono ?_
     rintro r w6 ⟨rfl, o6⟩
     have HN6 := hq9 (HNZ.out.keep o6)
     have BX6 := hq9 (BXZ.out.only o6 (by simp))
     clear o6 HNZ BXZ BX OX OY x3
     go_wp2_with ((with_reducible show wpList _ _ _ (Oper.mk (some 89) _ _ _ _ _ :: _) _ _); refine wpList_load_part rfl 447 (.tmp 16) rfl wr.heap.size 0 rfl 447 _ BX6.out [.int .i64 2, .string ⟨#[97]⟩, .string ⟨#[49]⟩, .bool false, .string ⟨#[]⟩, .int .u64 0, .int .u64 0, .int .i64 0, .int .i64 0, .int .i64 2, .int .i64 0] rfl _ Tryz.underlying447 rfl (by kernel_rfl) ?_)
     refine (HCH.out w6 HN6.out.again).mono ?_
     rintro r w7 ⟨rfl, ov, ev, h7⟩
     have H7 := hq9 (HN6.out.trans h7)
     clear h7 HN6 BX6
     go_wp2
     go_roundw
     case rel => exact .inr ⟨rfl, _, c, _, ov, ev, rfl, by simp, H7.out⟩
     case measure => simp only [intOf]; omega
    ·go_wp2
     go_ret2
     exact ⟨b, c, cs, ov, ev, rfl, hcs, hch⟩
end Go.Proofs.YtlggichakafkiaaGreat
namespace Go.Proofs.YtlggichakafkiaaGreat
open Go.BigFrame Go.RowKit Go.Proofs.FuMem Go.Proofs.FuTop Go.Proofs.FuNvm Go.Proofs.FuPool Go.Proofs.FuClk Go.Proofs.FuBlock Go.Proofs.FuClass Go.Proofs.FuCrc
set_option maxRecDepth 100000
theorem PtAt.start {w : World} {wb gd cb cap : Nat} {B : ArB} {S : ArS} {D : Dev} {f : Fr} (h : PtAt w wb gd cb cap B S D f) : ChIn w gd cb cap B w B S D [] :=
 ChIn.start h.ar h.dev h.gd0 h.cb0 ⟨h.dev.head.lt, by obtain ⟨cs, hb, _⟩ := h.dev.body; exact hb.lt⟩
theorem PtAt.of {w w1 : World} {wb gd cb cap : Nat} {B B' : ArB} {S S' : ArS} {D D' : Dev} {f : Fr} {X : List (Nat × TypeId × List Value)} (h : PtAt w wb gd cb cap B S D f) (hc : ChIn w gd cb cap B w1 B' S' D' X) (ha : B'.a = B.a) : PtAt w1 wb gd cb cap B' S' D' f := by
 refine ⟨by rw [ha]; exact h.wk.only hc.only h.ne, hc.ar, hc.dev, fun hm => ?_, hc.gd0, hc.cb0⟩
 have hn := h.ne
 unfold turnT at hm hn
 simp only [List.mem_cons, not_or] at hm hn
 rcases hm with h1 | h1 | h1
 ·exact hn.1 h1
 ·exact hn.2.1 h1
 ·rcases hc.own wb h1 with h2 | h2
  ·exact hn.2.2 h2
  ·have := h.wk.lt; omega
set_option maxHeartbeats 4000000 in
theorem pt_publish (wb gd cb cap : Nat) (B : ArB) (S : ArS) (D : Dev) (w : World) (h : PtAt w wb gd cb cap B S D (awF 5 1 2 0 0)) (hT : S.T = []) (hL : S.L = []) (hE : S.E = []) (hP : S.P = takeP (newPool 2) 0) (hok : Ok S.P) (hid : S.id = 0) (hver : S.ver = 0) (hF : S.F = []) (ho : 1 ≤ S.C.owed.length) (hnow : S.C.now = 1) (hr : ∀ L ∈ S.Ls, Rising L ∧ L.length ≤ 99999) :
  Calls Tryz.prog 261 #[.pointer (some ⟨wb, 0, none⟩)] w fun r w' => PtAns wb gd cb cap B (putS S) (store1 D 2 0 encA) (awF 6 1 (-1) 0 1) w r w' := by
 have H := hq9 h
 have HPB := hq9 (show ∀ (lb : Nat) W, Only [] w W → Blk W lb 447 chC.toArray → Calls Tryz.prog 321 #[.pointer (some ⟨B.a, 0, none⟩), .int .i64 0, .int .u64 1, .slice (some ⟨lb, 0, none⟩) 1 1] W (fun e w' => ∃ b c cs ov ev, e = .returned (.tuple #[.slice (some ⟨b, 0, none⟩) 1 c, .int .i64 0]) ∧ cs[0]? = some (.bool false) ∧ ChIn W gd cb cap B w' { B with ov := ov, ev := ev } (putS S) (store1 D 2 0 encA) [(b, 4, cs)]) from fun lb W o hb => arena_Publish gd cb cap lb B S D W (h.keep o).start hb hT hL hE hP hok hid hver hF ho hnow hr)
 generalize store1 D 2 0 encA = D' at *
 generalize putS S = S' at *
 unfold chC at *
 have HS := hq9 (show ∀ (W : World) a, a = B.a → Blk W wb 354 (wkC a (awF 5 1 2 0 0)).toArray → W.cell? ⟨wb, 0, none⟩ = some (.pointer (some ⟨B.a, 0, none⟩)) ∧ W.cell? ⟨wb, 1, none⟩ = some (.int .i64 0) ∧ W.cell? ⟨wb, 2, none⟩ = some (.int .i64 2) ∧ W.cell? ⟨wb, 3, none⟩ = some (.string ⟨#[97]⟩) ∧ W.cell? ⟨wb, 4, none⟩ = some (.string ⟨#[49]⟩) ∧ W.cell? ⟨wb, 8, none⟩ = some (.int .u64 1) ∧ W.cell? ⟨wb, 12, none⟩ = some (.bool false) ∧ W.cell? ⟨wb, 13, none⟩ = some (.string ⟨#[]⟩) ∧ W.cell? ⟨wb, 14, none⟩ = some (.int .u64 0) ∧ W.cell? ⟨wb, 15, none⟩ = some (.int .u64 0) ∧ W.cell? ⟨wb, 16, none⟩ = some (.int .i64 0) ∧ W.cell? ⟨wb, 17, none⟩ = some (.int .i64 0) ∧ W.cell? ⟨wb, 18, none⟩ = some (.int .i64 2) ∧ W.cell? ⟨wb, 19, none⟩ = some (.int .i64 0) from fun W a ha hb => by subst ha; exact ⟨hb.cell 0, hb.cell 1, hb.cell 2, hb.cell 3, hb.cell 4, hb.cell 8, hb.cell 12, hb.cell 13, hb.cell 14, hb.cell 15, hb.cell 16, hb.cell 17, hb.cell 18, hb.cell 19⟩)
 have OA := hq9 (((Only.refl [] w).alloc (.cells #[.int .i64 2, .string ⟨#[97]⟩, .string ⟨#[49]⟩, .bool false, .string ⟨#[]⟩, .int .u64 0, .int .u64 0, .int .i64 0, .int .i64 0, .int .i64 2, .int .i64 0] 447)).drew)
 have BA := hq9 (Blk.drew (Blk.new w 447 #[.int .i64 2, .string ⟨#[97]⟩, .string ⟨#[49]⟩, .bool false, .string ⟨#[]⟩, .int .u64 0, .int .u64 0, .int .i64 0, .int .i64 0, .int .i64 2, .int .i64 0]))
 have s0 := HS.out w.drew B.a rfl (Blk.drew h.wk)
 have sA := HS.out _ B.a rfl (h.keep OA.out).wk
 clear h hT hL hE hP hok hid hver hF ho hnow hr
 go_enter Tryz.func261, Tryz.ntmps261
 go_wp2_with fail
 go_region_held3 (fun W => W.cell? ⟨wb, 0, none⟩ = some (.pointer (some ⟨B.a, 0, none⟩)) ∧ W.cell? ⟨wb, 1, none⟩ = some (.int .i64 0) ∧ W.cell? ⟨wb, 2, none⟩ = some (.int .i64 2) ∧ W.cell? ⟨wb, 3, none⟩ = some (.string ⟨#[97]⟩) ∧ W.cell? ⟨wb, 4, none⟩ = some (.string ⟨#[49]⟩) ∧ W.cell? ⟨wb, 8, none⟩ = some (.int .u64 1) ∧ W.cell? ⟨wb, 12, none⟩ = some (.bool false) ∧ W.cell? ⟨wb, 13, none⟩ = some (.string ⟨#[]⟩) ∧ W.cell? ⟨wb, 14, none⟩ = some (.int .u64 0) ∧ W.cell? ⟨wb, 15, none⟩ = some (.int .u64 0) ∧ W.cell? ⟨wb, 16, none⟩ = some (.int .i64 0) ∧ W.cell? ⟨wb, 17, none⟩ = some (.int .i64 0) ∧ W.cell? ⟨wb, 18, none⟩ = some (.int .i64 2) ∧ W.cell? ⟨wb, 19, none⟩ = some (.int .i64 0))
  (first | (with_reducible assumption) | (with_reducible exact s0) | (with_reducible exact sA) | (with_reducible exact s1) | go_keep)
  (first | (go_at_call 321; (with_reducible refine (HPB.out w.heap.size _ OA.out BA.out).mono ?_); rintro r w1 ⟨b, c, cs, ov, ev, rfl, hcs, hch⟩; have HCH := hq9 hch; have PA := hq9 ((H.out.keep OA.out).of hch rfl); have HCS := hq9 hcs; have s1 := HS.out w1 B.a rfl ((H.out.keep OA.out).of hch rfl).wk; clear hch hcs))
 clear s0 sA s1 HS HPB BA
 have S1 := PA.out.set 25 (.bool false) (f' := awF 5 1 2 0 0) rfl
 have S2 := S1.1.set 29 (.int .u64 1) (f' := awF 5 1 2 0 1) rfl
 have S3 := S2.1.set 18 (.int .i64 (-1)) (f' := awF 5 1 (-1) 0 1) rfl
 have S4 := S3.1.set 7 (.int .i64 6) (f' := awF 6 1 (-1) 0 1) rfl
 have U2 := S1.2.trans S2.2 (fun b hb => .inl hb)
 have U3 := U2.trans S3.2 (fun b hb => .inl hb)
 have U4 := U3.trans S4.2 (fun b hb => .inl hb)
 have HK := hq9 (show ∀ W D0 B0 S0 f0, Only [wb] w1 W → PtAt W wb gd cb cap B0 S0 D0 f0 → f0.ep = 1 → W.drew.cell? ⟨b, 0, none⟩ = some (.bool false) ∧ W.drew.cell? ⟨wb, 8, none⟩ = some (.int .u64 1) from fun W D0 B0 S0 f0 o hp he => ⟨by
  have hbb : Blk w1 b 4 cs.toArray := HCH.out.get (i := 0) rfl
  have hge := (HCH.out.x _ (List.mem_of_getElem? (i := 0) rfl)).2.1
  have hwl := (H.out.keep OA.out).wk.lt
  have := (hbb.only o (by simp; omega)).drew.cell 0
  simpa [HCS.out] using this, by
  have e : (wkC B0.a f0).toArray[8]? = some (.int .u64 ((f0.ep : Nat) : Int)) := rfl
  rw [hp.wk.drew.cell 8, e, he]
  rfl⟩)
 have t0 := HK.out w1 _ _ _ _ (Only.refl _ _) PA.out rfl
 have t1 := HK.out _ _ _ _ _ S1.2 S1.1 rfl
 have t2 := HK.out _ _ _ _ _ U2 S2.1 rfl
 have t3 := HK.out _ _ _ _ _ U3 S3.1 rfl
 have t4 := HK.out _ _ _ _ _ U4 S4.1 rfl
 have c25 : w1.drew.cell? ⟨wb, 25, none⟩ = some (.bool false) := PA.out.wk.drew.cell 25
 have z25 := PA.out.wk.drew.frozen 25
 have c29 : (w1.setCell ⟨wb, 25, none⟩ (.bool false)).drew.cell? ⟨wb, 29, none⟩ = some (.int .u64 0) := S1.1.wk.drew.cell 29
 have z29 := S1.1.wk.drew.frozen 29
 have c18 : ((w1.setCell ⟨wb, 25, none⟩ (.bool false)).setCell ⟨wb, 29, none⟩ (.int .u64 1)).drew.cell? ⟨wb, 18, none⟩ = some (.int .i64 2) := S2.1.wk.drew.cell 18
 have z18 := S2.1.wk.drew.frozen 18
 have c7 : (((w1.setCell ⟨wb, 25, none⟩ (.bool false)).setCell ⟨wb, 29, none⟩ (.int .u64 1)).setCell ⟨wb, 18, none⟩ (.int .i64 (-1))).drew.cell? ⟨wb, 7, none⟩ = some (.int .i64 5) := S3.1.wk.drew.cell 7
 have z7 := S3.1.wk.drew.frozen 7
 have P9 := hq9 (S4.1.keep (Only.refl [] _).drew)
 have O9 := hq9 (U4.drew)
 clear S1 S2 S3 S4 U2 U3 U4 HK
 go_wp2_with fail
 go_region_held3 (fun W => W.cell? ⟨b, 0, none⟩ = some (.bool false) ∧ W.cell? ⟨wb, 8, none⟩ = some (.int .u64 1))
  (first | (with_reducible assumption) | (with_reducible exact t0) | (with_reducible exact t1) | (with_reducible exact t2) | (with_reducible exact t3) | (with_reducible exact t4) | go_keep)
  (first | fail)
 all_goals
  clear t0 t1 t2 t3 t4 c25 z25 c29 z29 c18 z18 c7 z7
  go_wp2
  go_end0
  exact ⟨rfl, { B with ov := ov, ev := ev }, rfl, P9.out, ((OA.out.mono (T := wb :: turnT gd cb B) (by simp)).trans HCH.out.only (fun b hb => .inl (List.mem_cons_of_mem _ hb))).trans O9.out (fun b hb => .inl (by simp at hb; simp [hb])), fun b hb => (HCH.out.own b hb).imp id (fun h => Nat.le_trans OA.out.size h)⟩
end Go.Proofs.YtlggichakafkiaaGreat
namespace Go.Proofs.YtlggichakafkiaaGreat
open Go.BigFrame Go.RowKit Go.Proofs.FuMem Go.Proofs.FuTop Go.Proofs.FuNvm Go.Proofs.FuPool Go.Proofs.FuClk Go.Proofs.FuBlock Go.Proofs.FuClass Go.Proofs.FuCrc
set_option maxRecDepth 100000
theorem step_of (gd cb cap : Nat) (B : ArB) (S S' : ArS) (D D' : Dev) (f f' : Fr) (ph : Nat) (hph : ph < 7) (hfp : f.ph = ph) (hk : 1 ≤ f.k ∧ f.k ≤ 3) (fid : FuncId) (hfn : ptPhases[ph]? = some (.func (.func fid) #[] #[])) (hent : ∀ g w, (callFunc fid #[.pointer (some ⟨g, 0, none⟩)]).run Tryz.prog w = .ok (.enter fid #[.pointer (some ⟨g, 0, none⟩)]) w)
  (HP : ∀ wb w, PtAt w wb gd cb cap B S D f → Calls Tryz.prog fid #[.pointer (some ⟨wb, 0, none⟩)] w (PtAns wb gd cb cap B S' D' f' w)) (w : World) (h : ChIn w gd cb cap B w B S D []) :
  Calls Tryz.prog 180 #[.pointer (some ⟨B.a, 0, none⟩), .int .i64 0, .agg (frC f).toArray] w fun r w' => r = .returned (.agg (frC f').toArray) ∧ ∃ B', B'.a = B.a ∧ ChIn w gd cb cap B w' B' S' D' [] := by
 have hlt : ∀ b ∈ turnT gd cb B, b < w.heap.size := fun b hb => by
  unfold turnT at hb
  simp only [List.mem_cons] at hb
  rcases hb with rfl | rfl | hb
  ·exact h.lo.1
  ·exact h.lo.2
  ·exact h.ar.lt b hb
 refine (pt_Step B.a f w ph hph hfp hk fid hfn hent (turnT gd cb B) hlt (fun f1 w1 w' => f1 = f' ∧ ∃ B', B'.a = B.a ∧ ArAt w' gd B' S' ∧ DevAt w' gd cb cap D' ∧ gd ∉ (arFs B').flatten ∧ cb ∉ (arFs B').flatten ∧ ∀ b ∈ (arFs B').flatten, b ∈ (arFs B).flatten ∨ w1.heap.size ≤ b) (fun w1 wb o1 hb hge => ?_)).mono ?_
 ·refine (HP wb w1 ⟨hb, h.ar.keep0 o1, h.dev.only0 o1, fun hm => by have := hlt wb hm; omega, h.gd0, h.cb0⟩).mono ?_
  rintro r w' ⟨rfl, B', ha, hp, o, own⟩
  exact ⟨rfl, f', by rw [← ha]; exact hp.wk, o, rfl, B', ha, hp.ar, hp.dev, hp.gd0, hp.cb0, own⟩
 ·rintro r w' ⟨f1, w1, w2, rb, rfl, ⟨rfl, B', ha, har, hdev, hg, hc, own⟩, o1, oT, o2, hrb, hrb2⟩
  have l := h.lo
  refine ⟨rfl, B', ha, har.keep o2 (fun b hb hm => ?_), hdev.only o2 (by simp; omega) (by simp; omega), by simp, oT, fun b hb => (own b hb).imp id (fun q => Nat.le_trans o1.size q), hg, hc, h.lo⟩
  simp at hm
  subst hm
  rcases own b hb with q | q
  ·have := h.ar.lt b q; omega
  ·omega
section
variable (gd cb cap : Nat) (B : ArB) (S : ArS) (D : Dev) (w : World) (h : ChIn w gd cb cap B w B S D [])
def Stp (gd cb cap : Nat) (B : ArB) (S S' : ArS) (D D' : Dev) (f f' : Fr) : Prop := ∀ w, ChIn w gd cb cap B w B S D [] → Calls Tryz.prog 180 #[.pointer (some ⟨B.a, 0, none⟩), .int .i64 0, .agg (frC f).toArray] w fun r w' => r = .returned (.agg (frC f').toArray) ∧ ∃ B', B'.a = B.a ∧ ChIn w gd cb cap B w' B' S' D' []
theorem stp_enter (h0 : S.has = [0]) (h1 : S.C.now = 1) : Stp gd cb cap B S { S with has := [S.now] } D D (awF 0 0 (-1) 0 0) (awF 1 1 (-1) 0 0) :=
 fun w h => step_of gd cb cap B S _ D D _ _ 0 (by decide) rfl (by decide) 256 rfl (fun _ _ => rfl) (fun wb w hp => pt_enter wb gd cb cap B S D w hp h0 h1) w h
theorem stp_find (h0 : S.T = []) : Stp gd cb cap B S S D D (awF 1 1 (-1) 0 0) (awF 3 1 (-1) 0 0) :=
 fun w h => step_of gd cb cap B S _ D D _ _ 1 (by decide) rfl (by decide) 257 rfl (fun _ _ => rfl) (fun wb w hp => pt_find wb gd cb cap B S D w hp h0) w h
theorem stp_take (h0 : S.P = newPool 2) : Stp gd cb cap B S { S with P := takeP (newPool 2) 0 } D D (awF 3 1 (-1) 0 0) (awF 4 1 2 0 0) :=
 fun w h => step_of gd cb cap B S _ D D _ _ 3 (by decide) rfl (by decide) 259 rfl (fun _ _ => rfl) (fun wb w hp => pt_take wb gd cb cap B S D w hp h0) w h
theorem stp_write : Stp gd cb cap B S S D (store1 D 2 0 (draftOf 0)) (awF 4 1 2 0 0) (awF 5 1 2 0 0) :=
 fun w h => step_of gd cb cap B S _ D _ _ _ 4 (by decide) rfl (by decide) 260 rfl (fun _ _ => rfl) (fun wb w hp => pt_write wb gd cb cap B S D w hp) w h
theorem stp_publish (hT : S.T = []) (hL : S.L = []) (hE : S.E = []) (hP : S.P = takeP (newPool 2) 0) (hok : Ok S.P) (hid : S.id = 0) (hver : S.ver = 0) (hF : S.F = []) (ho : 1 ≤ S.C.owed.length) (hnow : S.C.now = 1) (hr : ∀ L ∈ S.Ls, Rising L ∧ L.length ≤ 99999) : Stp gd cb cap B S (putS S) D (store1 D 2 0 encA) (awF 5 1 2 0 0) (awF 6 1 (-1) 0 1) :=
 fun w h => step_of gd cb cap B S _ D _ _ _ 5 (by decide) rfl (by decide) 261 rfl (fun _ _ => rfl) (fun wb w hp => pt_publish wb gd cb cap B S D w hp hT hL hE hP hok hid hver hF ho hnow hr) w h
theorem stp_leave (x : Int) (h0 : S.has = [x]) (hx : x ≠ 0) : Stp gd cb cap B S { S with has := [0] } D D (awF 6 1 (-1) 0 1) (awF 7 1 (-1) 0 1) :=
 fun w h => step_of gd cb cap B S _ D D _ _ 6 (by decide) rfl (by decide) 262 rfl (fun _ _ => rfl) (fun wb w hp => pt_leave wb gd cb cap B S D w _ hp x h0 hx) w h
end
end Go.Proofs.YtlggichakafkiaaGreat
namespace Go.Proofs.YtlggichakafkiaaGreat
open Go.BigFrame Go.RowKit Go.Proofs.FuMem Go.Proofs.FuTop Go.Proofs.FuNvm Go.Proofs.FuPool Go.Proofs.FuClk Go.Proofs.FuBlock Go.Proofs.FuClass Go.Proofs.FuCrc
set_option maxRecDepth 100000
structure WdIn (w : World) (g gd cb cap : Nat) (x : Wd) (B : ArB) (S : ArS) (D : Dev) : Prop where
 wd : Blk w g 129 (wdC x).toArray
 ch : ChIn w gd cb cap B w B S D []
 ne : g ∉ turnT gd cb B
 a : x.a = B.a
theorem WdIn.keep {w w' : World} {g gd cb cap : Nat} {x : Wd} {B : ArB} {S : ArS} {D : Dev} (h : WdIn w g gd cb cap x B S D) (o : Only [] w w') : WdIn w' g gd cb cap x B S D :=
 ⟨h.wd.only o (by simp), (h.ch.keep o).again, h.ne, h.a⟩
theorem WdIn.step {w w' : World} {g gd cb cap : Nat} {x : Wd} {B B' : ArB} {S S' : ArS} {D D' : Dev} (h : WdIn w g gd cb cap x B S D) (hc : ChIn w gd cb cap B w' B' S' D' []) (ha : B'.a = B.a) : WdIn w' g gd cb cap x B' S' D' := by
 refine ⟨h.wd.only hc.only h.ne, hc.again, fun hm => ?_, by rw [h.a, ha]⟩
 have hn := h.ne
 unfold turnT at hm hn
 simp only [List.mem_cons, not_or] at hm hn
 rcases hm with h1 | h1 | h1
 ·exact hn.1 h1
 ·exact hn.2.1 h1
 ·rcases hc.own g h1 with h2 | h2
  ·exact hn.2.2 h2
  ·have := h.wd.lt; omega
theorem ChIn.far {w0 w w' : World} {gd cb cap b : Nat} {B0 B : ArB} {S : ArS} {D : Dev} (h : ChIn w0 gd cb cap B0 w B S D []) (o : Only [b] w w') (hb : w0.heap.size ≤ b) (hn : b ∉ (arFs B).flatten) : ChIn w0 gd cb cap B0 w' B S D [] := by
 have l := h.lo
 exact ⟨h.ar.keep o (fun c hc hm => by simp at hm; subst hm; exact hn hc), h.dev.only o (by simp; omega) (by simp; omega), by simp, h.only.trans o (fun c hc => .inr (by simp at hc; omega)), h.own, h.gd0, h.cb0, h.lo⟩
set_option maxHeartbeats 4000000 in
theorem world_stepped (g gd cb cap : Nat) (x : Wd) (B : ArB) (S S' : ArS) (D D' : Dev) (f f' : Fr) (w : World) (h : WdIn w g gd cb cap x B S D) (hk : f.k = 2) (hs : Stp gd cb cap B S S' D D' f f') :
  Calls Tryz.prog 145 #[.pointer (some ⟨g, 0, none⟩), .int .i64 0, .agg (frC f).toArray] w fun r w' => r = .returned (.agg (frC f').toArray) ∧ ∃ B', B'.a = B.a ∧ ChIn w gd cb cap B w' B' S' D' [] := by
 obtain ⟨b1, b2, o2⟩ := two_new w 74 74 (frC f).toArray #[.int .i64 0, .string ⟨#[]⟩, .string ⟨#[]⟩, .string ⟨#[]⟩, .slice none 0 0, .int .i64 0, .int .u64 0, .string ⟨#[]⟩, .bool false, .int .i64 0, .bool false, .string ⟨#[]⟩, .int .u64 0, .int .u64 0, .int .i64 0, .int .i64 0, .int .i64 0, .int .i64 0, .int .i64 0, .slice none 0 0, .int .i64 0, .slice none 0 0, .int .i64 0, .bool false, .string ⟨#[]⟩, .slice none 0 0, .slice none 0 0, .int .u64 0]
 have B1 := hq9 b1
 have B2 := hq9 b2
 have O2 := hq9 o2
 have H := hq9 h
 have HST := hq9 (show ∀ w, ChIn w gd cb cap B w B S D [] → Calls Tryz.prog 180 #[.pointer (some ⟨B.a, 0, none⟩), .int .i64 0, .agg (frC f).toArray] w (fun r w' => r = .returned (.agg (frC f').toArray) ∧ ∃ B', B'.a = B.a ∧ ChIn w gd cb cap B w' B' S' D' []) from hs)
 have F1 := hq9 (frC_one f)
 have HK := hq9 hk
 clear b1 b2 o2 hs hk
 have hgl : g < w.heap.size := h.wd.lt
 have hfb : w.heap.size + 1 ∉ turnT gd cb B := fun hm => by
  unfold turnT at hm
  simp only [List.mem_cons] at hm
  have := h.ch.lo
  rcases hm with q | q | q
  ·omega
  ·omega
  ·have := h.ch.ar.lt _ q; omega
 have hfa : w.heap.size ∉ turnT gd cb B := fun hm => by
  unfold turnT at hm
  simp only [List.mem_cons] at hm
  have := h.ch.lo
  rcases hm with q | q | q
  ·omega
  ·omega
  ·have := h.ch.ar.lt _ q; omega
 have q0 : (frC f)[0]? = some (.int .i64 2) := by rw [← HK.out]; rfl
 clear h
 go_enter Tryz.func145, Tryz.ntmps145
 go_wp2_with fail
 clear q0
 generalize ((w.alloc _).alloc _) = w1 at *
 have H1 := hq9 (H.out.keep O2.out)
 have s0 : w1.drew.cell? ⟨g, 4, none⟩ = some (.pointer (some ⟨B.a, 0, none⟩)) ∧ w1.drew.rangeAt w.heap.size 0 (frC f) := ⟨by rw [← H.out.a]; exact H1.out.wd.drew.cell 4, blk_range B1.out.drew 0 (frC f) (fun j v hj => by simpa using hj)⟩
 have BD := hq9 B1.out.drew
 have BE := hq9 B2.out.drew
 have HD := hq9 (H1.out.keep (Only.refl [] _).drew)
 have OD := hq9 O2.out.drew
 have F2 := hq9 (frC_one f')
 clear B1 B2 O2 H1
 refine wp_region_noPanic ?_
 refine wp_region_held_drew (S := fun W => W.cell? ⟨g, 4, none⟩ = some (.pointer (some ⟨B.a, 0, none⟩)) ∧ W.rangeAt w.heap.size 0 (frC f)) (by kernel_rfl) s0 (fun hHeld => ?_)
 refine wpAnyH_take (i := 0) (oi := { dst := some 16, op := Op.move (Operand.tmp 0), type := 29, pos := "world.go:126", after := #[], guard := none }) (v := ?_) rfl (by kernel_rfl) (by kernel_rfl) (by kernel_rfl) (fun _ _ _ h => h) (Or.inl ⟨by rfl, ?_⟩) hHeld ?_
 rotate_left 1
 (intro w hSw; (try dsimp only at hSw); go_simp)
 (try with_reducible rfl)
 (try simp only [Act.put, List.setIfInBounds_toArray, List.set_cons_zero, List.set_cons_succ])
 refine wpAnyH_take (i := 1) (oi := { dst := some 17, op := Op.nilCheck (Operand.tmp 16), type := 0, pos := "world.go:126", after := #[{ on := 0, ground := Ground.data }], guard := none }) (v := ?_) rfl (by kernel_rfl) (by kernel_rfl) (by kernel_rfl) (fun _ _ _ h => h) (Or.inl ⟨by rfl, ?_⟩) hHeld ?_
 rotate_left 1
 (intro w hSw; (try dsimp only at hSw); go_simp)
 (try with_reducible rfl)
 (try simp only [Act.put, List.setIfInBounds_toArray, List.set_cons_zero, List.set_cons_succ])
 refine wpAnyH_take (i := 2) (oi := { dst := some 18, op := Op.fieldAddr 129 (Operand.tmp 17) 2, type := 0, pos := "world.go:126", after := #[{ on := 1, ground := Ground.data }], guard := none }) (v := ?_) rfl (by kernel_rfl) (by kernel_rfl) (by kernel_rfl) (fun _ _ _ h => h) (Or.inl ⟨by rfl, ?_⟩) hHeld ?_
 rotate_left 1
 (intro w hSw; (try dsimp only at hSw); go_simp)
 (try with_reducible rfl)
 (try simp only [Act.put, List.setIfInBounds_toArray, List.set_cons_zero, List.set_cons_succ])
 refine wpAnyH_take (i := 3) (oi := { dst := some 19, op := Op.load 119 (Operand.tmp 18), type := 119, pos := "world.go:126", after := #[{ on := 2, ground := Ground.data }], guard := none }) (v := ?_) rfl (by kernel_rfl) (by kernel_rfl) (by kernel_rfl) (fun _ _ _ h => h) (Or.inl ⟨by rfl, ?_⟩) hHeld ?_
 rotate_left 1
 (intro w hSw; (try dsimp only at hSw); go_simp)
 (try with_reducible rfl)
 (try simp only [Act.put, List.setIfInBounds_toArray, List.set_cons_zero, List.set_cons_succ])
 refine wpAnyH_take (i := 4) (oi := { dst := some 20, op := Op.move (Operand.tmp 1), type := 3, pos := "world.go:126", after := #[], guard := none }) (v := ?_) rfl (by kernel_rfl) (by kernel_rfl) (by kernel_rfl) (fun _ _ _ h => h) (Or.inl ⟨by rfl, ?_⟩) hHeld ?_
 rotate_left 1
 (intro w hSw; (try dsimp only at hSw); go_simp)
 (try with_reducible rfl)
 (try simp only [Act.put, List.setIfInBounds_toArray, List.set_cons_zero, List.set_cons_succ])
 refine wpAnyH_take (i := 5) (oi := { dst := some 21, op := Op.load 74 (Operand.tmp 5), type := 74, pos := "world.go:126", after := #[], guard := none }) (v := _) rfl (by kernel_rfl) (by kernel_rfl) (by kernel_rfl) (fun _ _ _ h => h) (yieldsIf_load_mid (by rfl) 74 (.tmp 5) rfl w.heap.size 0 rfl (frC f) _ (fun w h => h.2) Tryz.underlying74 rfl (by kernel_rfl)) hHeld ?_
 (try simp only [Act.put, List.setIfInBounds_toArray, List.set_cons_zero, List.set_cons_succ])
 refine wpAnyH_ready (rs := [6]) (by kernel_rfl) (by simp) ?_
 refine AllReadyH.cons (o := { dst := some 22, op := Op.call { callee := Callee.value (Operand.func 180), args := #[Operand.tmp 19, Operand.tmp 20, Operand.tmp 21], argTypes := #[119, 3, 74] }, type := 74, pos := "world.go:126", after := #[{ on := 3, ground := Ground.data }, { on := 4, ground := Ground.data }, { on := 5, ground := Ground.data }], guard := none }) rfl (fun K hK => ?_) AllReadyH.nil
 go_simp
 refine (HST.out w1.drew HD.out.ch).mono ?_
 rintro r w2 ⟨rfl, B', ha, hc⟩
 have HC := hq9 hc
 have HA := hq9 ha
 have s2 : w2.cell? ⟨g, 4, none⟩ = some (.pointer (some ⟨B.a, 0, none⟩)) ∧ w2.rangeAt w.heap.size 0 (frC f) := ⟨(by rw [← H.out.a]; exact (HD.out.step hc ha).wd.cell 4), blk_range (BD.out.only hc.only hfa) 0 (frC f) (fun j v hj => by simpa using hj)⟩
 obtain ⟨w3, hr3, b3, o3, _⟩ := store_cells (P := Tryz.prog) (ds := (frC f').toArray) (vs := frC f') (off := 0) (BE.out.only hc.only hfb) (by simp [frC]) (by simp [frC]) F2.out
 have s3 : w3.cell? ⟨g, 4, none⟩ = some (.pointer (some ⟨B.a, 0, none⟩)) ∧ w3.rangeAt w.heap.size 0 (frC f) := ⟨(by rw [← H.out.a]; exact ((HD.out.step hc ha).wd.only o3 (by simp; omega)).cell 4), blk_range ((BD.out.only hc.only hfa).only o3 (by simp)) 0 (frC f) (fun j v hj => by simpa using hj)⟩
 have B3 := hq9 b3
 have O3 := hq9 o3
 clear hc ha b3 o3
 go_wp2_with fail
 refine hK.out _ _ s2 (fun hHeld => ?_)
 clear hK K
 (try simp only [Act.put, List.setIfInBounds_toArray, List.set_cons_zero, List.set_cons_succ])
 refine wpAnyH_ready (rs := [7]) (by kernel_rfl) (by simp) ?_
 refine AllReadyH.cons (o := _) rfl (fun K hK => ?_) AllReadyH.nil
 go_simp
 refine hK.out _ _ s3 (fun hHeld => ?_)
 clear hK K
 refine wpAnyH_done (by kernel_rfl) ?_ _
 refine NoPanic.normal ?_
 (try simp only [Act.put, List.setIfInBounds_toArray, List.set_cons_zero, List.set_cons_succ])
 have G3 := hq9 (show ChIn w gd cb cap B w3 B' S' D' [] from (((H.out.ch.keep OD.out).trans HC.out).far O3.out (by omega) (fun hm => by
  rcases HC.out.own _ hm with q | q
  ·have := H.out.ch.ar.lt _ q; omega
  ·have := BE.out.lt; omega)))
 go_wp2
 exact bodyPost_ret (results_cell_row rfl _ _ (w.heap.size + 1) 74 _ _ _ rfl B3.out Tryz.underlying74 rfl (by kernel_rfl)) rfl ⟨rfl, B', HA.out, G3.out⟩
end Go.Proofs.YtlggichakafkiaaGreat
namespace Go.Proofs.YtlggichakafkiaaGreat
open Go.BigFrame Go.RowKit Go.Proofs.FuMem Go.Proofs.FuTop Go.Proofs.FuNvm Go.Proofs.FuPool Go.Proofs.FuClk Go.Proofs.FuBlock Go.Proofs.FuClass Go.Proofs.FuCrc
set_option maxRecDepth 100000
theorem WdIn.own {w w' : World} {g gd cb cap : Nat} {x y : Wd} {B : ArB} {S : ArS} {D : Dev} (h : WdIn w g gd cb cap x B S D) (o : Only [g] w w') (hb : Blk w' g 129 (wdC y).toArray) (ha : y.a = x.a) : WdIn w' g gd cb cap y B S D := by
 have hn := h.ne
 unfold turnT at hn
 simp only [List.mem_cons, not_or] at hn
 have s := o.size
 have l := h.ch.lo
 exact ⟨hb, ChIn.start (h.ch.ar.keep o (fun b hb0 hm => by simp at hm; subst hm; exact hn.2.2 hb0)) (h.ch.dev.only o (by simpa using fun e => hn.1 e.symm) (by simpa using fun e => hn.2.1 e.symm)) h.ch.gd0 h.ch.cb0 ⟨by omega, by omega⟩, h.ne, by rw [ha, h.a]⟩
def ev2 : List Value := [.int .i64 2, .int .i64 0, .int .i64 0, .int .i64 0, .string ⟨#[]⟩, .string ⟨#[]⟩, .string ⟨#[]⟩, .slice none 0 0, .slice none 0 0]
set_option maxHeartbeats 4000000 in
theorem world_step (g gd cb cap : Nat) (x : Wd) (B : ArB) (S S' : ArS) (D D' : Dev) (f' : Fr) (w : World) (h : WdIn w g gd cb cap x B S D) (ht : x.threads = 1) (hbu : x.busy = true) (hk : x.f.k = 2) (hs : Stp gd cb cap B S S' D D' x.f f') (hp : f'.ph ≠ 7) :
  Calls Tryz.prog 100 #[.pointer (some ⟨g, 0, none⟩), .agg ev2.toArray] w fun r w' => r = .returned (.int .i64 0) ∧ ∃ B', B'.a = B.a ∧ WdIn w' g gd cb cap { x with f := f' } B' S' D' ∧ Only (g :: turnT gd cb B) w w' ∧ ∀ b ∈ (arFs B').flatten, b ∈ (arFs B).flatten ∨ w.heap.size ≤ b := by
 have B1 := hq9 (Blk.new w 42 ev2.toArray)
 have O1 := hq9 ((Only.refl [] w).alloc (.cells ev2.toArray 42))
 have H := hq9 h
 have HT := hq9 (fun w hb => world_thread g x w hb ht)
 have HST := hq9 (fun w h => world_stepped g gd cb cap x B S S' D D' x.f f' w h hk hs)
 have HBU := hq9 hbu
 have HP := hq9 hp
 have F2 := hq9 (frC_one f')
 have hgl : g < w.heap.size := h.wd.lt
 clear h ht hbu hk hs hp
 unfold ev2 at *
 have c1 : (w.alloc (.cells #[.int .i64 2, .int .i64 0, .int .i64 0, .int .i64 0, .string ⟨#[]⟩, .string ⟨#[]⟩, .string ⟨#[]⟩, .slice none 0 0, .slice none 0 0] 42)).cell? ⟨w.heap.size, 1, none⟩ = some (.int .i64 0) := B1.out.cell 1
 go_enter Tryz.func100, Tryz.ntmps100
 go_wp2_with fail
 clear c1
 generalize (w.alloc (.cells #[.int .i64 2, .int .i64 0, .int .i64 0, .int .i64 0, .string ⟨#[]⟩, .string ⟨#[]⟩, .string ⟨#[]⟩, .slice none 0 0, .slice none 0 0] 42)) = w1 at *
 have H1 := hq9 (H.out.keep O1.out)
 refine (HT.out w1 H1.out.wd).mono ?_
 rintro r w' ⟨rfl, rfl⟩
 have c8 : w1.cell? ⟨g, 8, none⟩ = some (.bool true) := by rw [← HBU.out]; exact H1.out.wd.cell 8
 go_wp2_with fail
 clear c8
 have s0 : w1.drew.cell? ⟨w.heap.size, 1, none⟩ = some (.int .i64 0) := B1.out.drew.cell 1
 have HD := hq9 (H1.out.keep (Only.refl [] _).drew)
 have BD := hq9 B1.out.drew
 have OD := hq9 O1.out.drew
 have r0 := hq9 (show w1.drew.rangeAt g 9 (frC x.f) from blk_range HD.out.wd 9 (frC x.f) (fun j v hj => by
  have e := congrArg (fun l : List Value => l[j]?) (wd_parts x)
  simp only [List.getElem?_drop] at e
  rw [List.getElem?_append_left (List.getElem?_eq_some_iff.1 hj).1, hj] at e
  simpa using e))
 have hfb : w.heap.size ∉ turnT gd cb B := fun hm => by
  unfold turnT at hm
  simp only [List.mem_cons] at hm
  have := H.out.ch.lo
  rcases hm with q | q | q
  ·omega
  ·omega
  ·have := H.out.ch.ar.lt _ q; omega
 clear B1 O1 H1
 refine wp_region_noPanic ?_
 refine wp_region_held_drew (S := fun W => W.cell? ⟨w.heap.size, 1, none⟩ = some (.int .i64 0)) (by kernel_rfl) s0 (fun hHeld => ?_)
 refine wpAnyH_take (i := 0) (oi := { dst := some 23, op := Op.move (Operand.tmp 5), type := 263, pos := "world.go:113", after := #[], guard := none }) (v := ?_) rfl (by kernel_rfl) (by kernel_rfl) (by kernel_rfl) (fun _ _ _ h => h) (Or.inl ⟨by rfl, ?_⟩) hHeld ?_
 rotate_left 1
 (intro w hSw; (try dsimp only at hSw); go_simp)
 (try with_reducible rfl)
 (try simp only [Act.put, List.setIfInBounds_toArray, List.set_cons_zero, List.set_cons_succ])
 refine wpAnyH_take (i := 1) (oi := { dst := some 24, op := Op.move (Operand.tmp 0), type := 29, pos := "world.go:113", after := #[], guard := none }) (v := ?_) rfl (by kernel_rfl) (by kernel_rfl) (by kernel_rfl) (fun _ _ _ h => h) (Or.inl ⟨by rfl, ?_⟩) hHeld ?_
 rotate_left 1
 (intro w hSw; (try dsimp only at hSw); go_simp)
 (try with_reducible rfl)
 (try simp only [Act.put, List.setIfInBounds_toArray, List.set_cons_zero, List.set_cons_succ])
 refine wpAnyH_take (i := 2) (oi := { dst := some 25, op := Op.fieldAddr 42 (Operand.tmp 3) 1, type := 0, pos := "world.go:113", after := #[], guard := none }) (v := ?_) rfl (by kernel_rfl) (by kernel_rfl) (by kernel_rfl) (fun _ _ _ h => h) (Or.inl ⟨by rfl, ?_⟩) hHeld ?_
 rotate_left 1
 (intro w hSw; (try dsimp only at hSw); go_simp)
 (try with_reducible rfl)
 (try simp only [Act.put, List.setIfInBounds_toArray, List.set_cons_zero, List.set_cons_succ])
 refine wpAnyH_take (i := 3) (oi := { dst := some 26, op := Op.load 3 (Operand.tmp 25), type := 3, pos := "world.go:113", after := #[{ on := 2, ground := Ground.data }], guard := none }) (v := ?_) rfl (by kernel_rfl) (by kernel_rfl) (by kernel_rfl) (fun _ _ _ h => h) (Or.inl ⟨by rfl, ?_⟩) hHeld ?_
 rotate_left 1
 (intro w hSw; (try dsimp only at hSw); go_simp)
 (try with_reducible rfl)
 (try simp only [Act.put, List.setIfInBounds_toArray, List.set_cons_zero, List.set_cons_succ])
 refine wpAnyH_take (i := 4) (oi := { dst := some 27, op := Op.move (Operand.tmp 5), type := 263, pos := "world.go:113", after := #[], guard := none }) (v := ?_) rfl (by kernel_rfl) (by kernel_rfl) (by kernel_rfl) (fun _ _ _ h => h) (Or.inl ⟨by rfl, ?_⟩) hHeld ?_
 rotate_left 1
 (intro w hSw; (try dsimp only at hSw); go_simp)
 (try with_reducible rfl)
 (try simp only [Act.put, List.setIfInBounds_toArray, List.set_cons_zero, List.set_cons_succ])
 refine wpAnyH_take (i := 5) (oi := { dst := some 28, op := Op.nilCheck (Operand.tmp 27), type := 0, pos := "world.go:113", after := #[{ on := 4, ground := Ground.data }], guard := none }) (v := ?_) rfl (by kernel_rfl) (by kernel_rfl) (by kernel_rfl) (fun _ _ _ h => h) (Or.inl ⟨by rfl, ?_⟩) hHeld ?_
 rotate_left 1
 (intro w hSw; (try dsimp only at hSw); go_simp)
 (try with_reducible rfl)
 (try simp only [Act.put, List.setIfInBounds_toArray, List.set_cons_zero, List.set_cons_succ])
 refine wpAnyH_take (i := 6) (oi := { dst := some 29, op := Op.fieldAddr 126 (Operand.tmp 28) 1, type := 0, pos := "world.go:113", after := #[{ on := 5, ground := Ground.data }], guard := none }) (v := ?_) rfl (by kernel_rfl) (by kernel_rfl) (by kernel_rfl) (fun _ _ _ h => h) (Or.inl ⟨by rfl, ?_⟩) hHeld ?_
 rotate_left 1
 (intro w hSw; (try dsimp only at hSw); go_simp)
 (try with_reducible rfl)
 (try simp only [Act.put, List.setIfInBounds_toArray, List.set_cons_zero, List.set_cons_succ])
 refine wpAnyH_ready (rs := [7]) (by kernel_rfl) (by simp) ?_
 refine AllReadyH.cons (o := { dst := some 30, op := Op.load 74 (Operand.tmp 29), type := 74, pos := "world.go:113", after := #[{ on := 6, ground := Ground.data }], guard := none }) rfl (fun K hK => ?_) AllReadyH.nil
 rw [if_pos (by rfl)]
 refine wp_load_mid 74 (.tmp 29) rfl g 9 rfl (frC x.f) _ r0.out Tryz.underlying74 rfl (by kernel_rfl) ?_
 refine hK.out _ _ s0 (fun hHeld => ?_)
 clear hK K
 (try simp only [Act.put, List.setIfInBounds_toArray, List.set_cons_zero, List.set_cons_succ])
 refine wpAnyH_ready (rs := [8]) (by kernel_rfl) (by simp) ?_
 refine AllReadyH.cons (o := { dst := some 31, op := Op.call { callee := Callee.value (Operand.func 145), args := #[Operand.tmp 24, Operand.tmp 26, Operand.tmp 30], argTypes := #[29, 3, 74] }, type := 74, pos := "world.go:113", after := #[{ on := 1, ground := Ground.data }, { on := 3, ground := Ground.data }, { on := 7, ground := Ground.data }], guard := none }) rfl (fun K hK => ?_) AllReadyH.nil
 go_simp
 refine (HST.out w1.drew HD.out).mono ?_
 rintro r w2 ⟨rfl, B', ha, hc⟩
 have HC := hq9 hc
 have HA := hq9 ha
 have H2 := hq9 (HD.out.step hc ha)
 have s2 : w2.cell? ⟨w.heap.size, 1, none⟩ = some (.int .i64 0) := (BD.out.only hc.only hfb).cell 1
 obtain ⟨w3, hr3, b3, o3, _⟩ := store_cells (P := Tryz.prog) (ds := (wdC { x with f := f' }).toArray) (vs := frC f') (off := 9) H2.out.wd (by simp [wdC, thrC, frC]) (by simp [wdC, thrC, frC]) F2.out
 have s3 : w3.cell? ⟨w.heap.size, 1, none⟩ = some (.int .i64 0) := ((BD.out.only hc.only hfb).only o3 (by simp; omega)).cell 1
 have B3 := hq9 b3
 have O3 := hq9 o3
 clear hc ha b3 o3
 go_wp2_with fail
 refine hK.out _ _ s2 (fun hHeld => ?_)
 clear hK K
 (try simp only [Act.put, List.setIfInBounds_toArray, List.set_cons_zero, List.set_cons_succ])
 refine wpAnyH_take (i := 9) (oi := { dst := some 32, op := Op.nilCheck (Operand.tmp 23), type := 0, pos := "world.go:113", after := #[{ on := 0, ground := Ground.data }, { on := 0, ground := Ground.phase }, { on := 1, ground := Ground.phase }, { on := 2, ground := Ground.phase }, { on := 3, ground := Ground.phase }, { on := 4, ground := Ground.phase }, { on := 5, ground := Ground.phase }, { on := 6, ground := Ground.phase }, { on := 7, ground := Ground.phase }, { on := 8, ground := Ground.phase }], guard := none }) (v := ?_) rfl (by kernel_rfl) (by kernel_rfl) (by kernel_rfl) (fun _ _ _ h => h) (Or.inl ⟨by rfl, ?_⟩) hHeld ?_
 rotate_left 1
 (intro w hSw; (try dsimp only at hSw); go_simp)
 (try with_reducible rfl)
 (try simp only [Act.put, List.setIfInBounds_toArray, List.set_cons_zero, List.set_cons_succ])
 refine wpAnyH_take (i := 10) (oi := { dst := some 33, op := Op.fieldAddr 126 (Operand.tmp 32) 1, type := 0, pos := "world.go:113", after := #[{ on := 9, ground := Ground.data }, { on := 0, ground := Ground.phase }, { on := 1, ground := Ground.phase }, { on := 2, ground := Ground.phase }, { on := 3, ground := Ground.phase }, { on := 4, ground := Ground.phase }, { on := 5, ground := Ground.phase }, { on := 6, ground := Ground.phase }, { on := 7, ground := Ground.phase }, { on := 8, ground := Ground.phase }], guard := none }) (v := ?_) rfl (by kernel_rfl) (by kernel_rfl) (by kernel_rfl) (fun _ _ _ h => h) (Or.inl ⟨by rfl, ?_⟩) hHeld ?_
 rotate_left 1
 (intro w hSw; (try dsimp only at hSw); go_simp)
 (try with_reducible rfl)
 (try simp only [Act.put, List.setIfInBounds_toArray, List.set_cons_zero, List.set_cons_succ])
 refine wpAnyH_ready (rs := [11]) (by kernel_rfl) (by simp) ?_
 refine AllReadyH.cons (o := { dst := none, op := Op.store 74 (Operand.tmp 33) (Operand.tmp 31), type := 0, pos := "world.go:113", after := #[{ on := 10, ground := Ground.data }, { on := 8, ground := Ground.data }, { on := 8, ground := Ground.chain }, { on := 0, ground := Ground.phase }, { on := 1, ground := Ground.phase }, { on := 2, ground := Ground.phase }, { on := 3, ground := Ground.phase }, { on := 4, ground := Ground.phase }, { on := 5, ground := Ground.phase }, { on := 6, ground := Ground.phase }, { on := 7, ground := Ground.phase }, { on := 8, ground := Ground.phase }], guard := none }) rfl (fun K hK => ?_) AllReadyH.nil
 go_simp
 refine hK.out _ _ s3 (fun hHeld => ?_)
 clear hK K
 (try simp only [Act.put, List.setIfInBounds_toArray, List.set_cons_zero, List.set_cons_succ])
 refine wpAnyH_done (by kernel_rfl) ?_ _
 refine NoPanic.normal ?_
 (try simp only [Act.put, List.setIfInBounds_toArray, List.set_cons_zero, List.set_cons_succ])
 have c14 : w3.cell? ⟨g, 14, none⟩ = some (.int .i64 f'.ph) := B3.out.cell 14
 have hq : ¬ f'.ph = 7 := HP.out
 go_wp2_with fail
 go_ret
 exact ⟨rfl, B', HA.out, H2.out.own O3.out B3.out rfl, ((OD.out.mono (T := g :: turnT gd cb B) (by simp)).trans HC.out.only (fun b hb => .inl (List.mem_cons_of_mem _ hb))).trans O3.out (fun b hb => .inl (by simp at hb; simp [hb])), fun b hb => (HC.out.own b hb).imp id (fun q => Nat.le_trans OD.out.size q)⟩
end Go.Proofs.YtlggichakafkiaaGreat
namespace Go.Proofs.YtlggichakafkiaaGreat
open Go.BigFrame Go.RowKit Go.Proofs.FuMem Go.Proofs.FuTop Go.Proofs.FuNvm Go.Proofs.FuPool Go.Proofs.FuClk Go.Proofs.FuBlock Go.Proofs.FuClass Go.Proofs.FuCrc
set_option maxRecDepth 100000
theorem WdIn.apart {w w' : World} {g gd cb cap sb : Nat} {x : Wd} {B : ArB} {S : ArS} {D : Dev} (h : WdIn w g gd cb cap x B S D) (o : Only [sb] w w') (hs : sb ≠ g ∧ sb ∉ turnT gd cb B) : WdIn w' g gd cb cap x B S D := by
 have hn := hs.2
 unfold turnT at hn
 simp only [List.mem_cons, not_or] at hn
 have s := o.size
 have l := h.ch.lo
 exact ⟨h.wd.only o (by simpa using fun e => hs.1 e.symm), ChIn.start (h.ch.ar.keep o (fun b hb0 hm => by simp at hm; subst hm; exact hn.2.2 hb0)) (h.ch.dev.only o (by simpa using fun e => hn.1 e.symm) (by simpa using fun e => hn.2.1 e.symm)) h.ch.gd0 h.ch.cb0 ⟨by omega, by omega⟩, h.ne, h.a⟩
set_option maxHeartbeats 4000000 in
theorem world_step_last (g gd cb cap : Nat) (x : Wd) (B : ArB) (S S' : ArS) (D D' : Dev) (f' : Fr) (w : World) (h : WdIn w g gd cb cap x B S D) (ht : x.threads = 1) (hbu : x.busy = true) (hk : x.f.k = 2) (hs : Stp gd cb cap B S S' D D' x.f f') (hp : f'.ph = 7) (sb sc : Nat) (ss : Array Value) (hst : x.st = .slice (some ⟨sb, 0, none⟩) 1 sc) (hsb : Blk w sb 54 ss) (hss : ss.toList.take 14 = stoC putC (ansC 0 false ⟨#[]⟩ 0) 1 (-1)) (hsn : sb ≠ g ∧ sb ∉ turnT gd cb B) (hsy : x.story = 0) :
  Calls Tryz.prog 100 #[.pointer (some ⟨g, 0, none⟩), .agg ev2.toArray] w fun r w' => r = .returned (.int .i64 0) ∧ ∃ B', B'.a = B.a ∧ WdIn w' g gd cb cap { x with busy := false, f := noF, story := 0 } B' S' D' ∧ Only (g :: sb :: turnT gd cb B) w w' ∧ ∀ b ∈ (arFs B').flatten, b ∈ (arFs B).flatten ∨ w.heap.size ≤ b := by
 have B1 := hq9 (Blk.new w 42 ev2.toArray)
 have O1 := hq9 ((Only.refl [] w).alloc (.cells ev2.toArray 42))
 have H := hq9 h
 have HT := hq9 (fun w hb => world_thread g x w hb ht)
 have HST := hq9 (fun w h => world_stepped g gd cb cap x B S S' D D' x.f f' w h hk hs)
 have HBU := hq9 hbu
 have HP := hq9 hp
 have HSB := hq9 hsb
 have HSS := hq9 hss
 have HSN := hq9 hsn
 have HSX := hq9 hst
 have HSY := hq9 hsy
 have F2 := hq9 (frC_one f')
 have hgl : g < w.heap.size := h.wd.lt
 clear h ht hbu hk hs hp hsb hss hsn hst hsy
 unfold ev2 at *
 have c1 : (w.alloc (.cells #[.int .i64 2, .int .i64 0, .int .i64 0, .int .i64 0, .string ⟨#[]⟩, .string ⟨#[]⟩, .string ⟨#[]⟩, .slice none 0 0, .slice none 0 0] 42)).cell? ⟨w.heap.size, 1, none⟩ = some (.int .i64 0) := B1.out.cell 1
 go_enter Tryz.func100, Tryz.ntmps100
 go_wp2_with fail
 clear c1
 generalize (w.alloc (.cells #[.int .i64 2, .int .i64 0, .int .i64 0, .int .i64 0, .string ⟨#[]⟩, .string ⟨#[]⟩, .string ⟨#[]⟩, .slice none 0 0, .slice none 0 0] 42)) = w1 at *
 have H1 := hq9 (H.out.keep O1.out)
 refine (HT.out w1 H1.out.wd).mono ?_
 rintro r w' ⟨rfl, rfl⟩
 have c8 : w1.cell? ⟨g, 8, none⟩ = some (.bool true) := by rw [← HBU.out]; exact H1.out.wd.cell 8
 go_wp2_with fail
 clear c8
 have s0 : w1.drew.cell? ⟨w.heap.size, 1, none⟩ = some (.int .i64 0) := B1.out.drew.cell 1
 have HD := hq9 (H1.out.keep (Only.refl [] _).drew)
 have BD := hq9 B1.out.drew
 have OD := hq9 O1.out.drew
 have r0 := hq9 (show w1.drew.rangeAt g 9 (frC x.f) from blk_range HD.out.wd 9 (frC x.f) (fun j v hj => by
  have e := congrArg (fun l : List Value => l[j]?) (wd_parts x)
  simp only [List.getElem?_drop] at e
  rw [List.getElem?_append_left (List.getElem?_eq_some_iff.1 hj).1, hj] at e
  simpa using e))
 have hfb : w.heap.size ∉ turnT gd cb B := fun hm => by
  unfold turnT at hm
  simp only [List.mem_cons] at hm
  have := H.out.ch.lo
  rcases hm with q | q | q
  ·omega
  ·omega
  ·have := H.out.ch.ar.lt _ q; omega
 clear B1 O1 H1
 refine wp_region_noPanic ?_
 refine wp_region_held_drew (S := fun W => W.cell? ⟨w.heap.size, 1, none⟩ = some (.int .i64 0)) (by kernel_rfl) s0 (fun hHeld => ?_)
 refine wpAnyH_take (i := 0) (oi := { dst := some 23, op := Op.move (Operand.tmp 5), type := 263, pos := "world.go:113", after := #[], guard := none }) (v := ?_) rfl (by kernel_rfl) (by kernel_rfl) (by kernel_rfl) (fun _ _ _ h => h) (Or.inl ⟨by rfl, ?_⟩) hHeld ?_
 rotate_left 1
 (intro w hSw; (try dsimp only at hSw); go_simp)
 (try with_reducible rfl)
 (try simp only [Act.put, List.setIfInBounds_toArray, List.set_cons_zero, List.set_cons_succ])
 refine wpAnyH_take (i := 1) (oi := { dst := some 24, op := Op.move (Operand.tmp 0), type := 29, pos := "world.go:113", after := #[], guard := none }) (v := ?_) rfl (by kernel_rfl) (by kernel_rfl) (by kernel_rfl) (fun _ _ _ h => h) (Or.inl ⟨by rfl, ?_⟩) hHeld ?_
 rotate_left 1
 (intro w hSw; (try dsimp only at hSw); go_simp)
 (try with_reducible rfl)
 (try simp only [Act.put, List.setIfInBounds_toArray, List.set_cons_zero, List.set_cons_succ])
 refine wpAnyH_take (i := 2) (oi := { dst := some 25, op := Op.fieldAddr 42 (Operand.tmp 3) 1, type := 0, pos := "world.go:113", after := #[], guard := none }) (v := ?_) rfl (by kernel_rfl) (by kernel_rfl) (by kernel_rfl) (fun _ _ _ h => h) (Or.inl ⟨by rfl, ?_⟩) hHeld ?_
 rotate_left 1
 (intro w hSw; (try dsimp only at hSw); go_simp)
 (try with_reducible rfl)
 (try simp only [Act.put, List.setIfInBounds_toArray, List.set_cons_zero, List.set_cons_succ])
 refine wpAnyH_take (i := 3) (oi := { dst := some 26, op := Op.load 3 (Operand.tmp 25), type := 3, pos := "world.go:113", after := #[{ on := 2, ground := Ground.data }], guard := none }) (v := ?_) rfl (by kernel_rfl) (by kernel_rfl) (by kernel_rfl) (fun _ _ _ h => h) (Or.inl ⟨by rfl, ?_⟩) hHeld ?_
 rotate_left 1
 (intro w hSw; (try dsimp only at hSw); go_simp)
 (try with_reducible rfl)
 (try simp only [Act.put, List.setIfInBounds_toArray, List.set_cons_zero, List.set_cons_succ])
 refine wpAnyH_take (i := 4) (oi := { dst := some 27, op := Op.move (Operand.tmp 5), type := 263, pos := "world.go:113", after := #[], guard := none }) (v := ?_) rfl (by kernel_rfl) (by kernel_rfl) (by kernel_rfl) (fun _ _ _ h => h) (Or.inl ⟨by rfl, ?_⟩) hHeld ?_
 rotate_left 1
 (intro w hSw; (try dsimp only at hSw); go_simp)
 (try with_reducible rfl)
 (try simp only [Act.put, List.setIfInBounds_toArray, List.set_cons_zero, List.set_cons_succ])
 refine wpAnyH_take (i := 5) (oi := { dst := some 28, op := Op.nilCheck (Operand.tmp 27), type := 0, pos := "world.go:113", after := #[{ on := 4, ground := Ground.data }], guard := none }) (v := ?_) rfl (by kernel_rfl) (by kernel_rfl) (by kernel_rfl) (fun _ _ _ h => h) (Or.inl ⟨by rfl, ?_⟩) hHeld ?_
 rotate_left 1
 (intro w hSw; (try dsimp only at hSw); go_simp)
 (try with_reducible rfl)
 (try simp only [Act.put, List.setIfInBounds_toArray, List.set_cons_zero, List.set_cons_succ])
 refine wpAnyH_take (i := 6) (oi := { dst := some 29, op := Op.fieldAddr 126 (Operand.tmp 28) 1, type := 0, pos := "world.go:113", after := #[{ on := 5, ground := Ground.data }], guard := none }) (v := ?_) rfl (by kernel_rfl) (by kernel_rfl) (by kernel_rfl) (fun _ _ _ h => h) (Or.inl ⟨by rfl, ?_⟩) hHeld ?_
 rotate_left 1
 (intro w hSw; (try dsimp only at hSw); go_simp)
 (try with_reducible rfl)
 (try simp only [Act.put, List.setIfInBounds_toArray, List.set_cons_zero, List.set_cons_succ])
 refine wpAnyH_ready (rs := [7]) (by kernel_rfl) (by simp) ?_
 refine AllReadyH.cons (o := { dst := some 30, op := Op.load 74 (Operand.tmp 29), type := 74, pos := "world.go:113", after := #[{ on := 6, ground := Ground.data }], guard := none }) rfl (fun K hK => ?_) AllReadyH.nil
 rw [if_pos (by rfl)]
 refine wp_load_mid 74 (.tmp 29) rfl g 9 rfl (frC x.f) _ r0.out Tryz.underlying74 rfl (by kernel_rfl) ?_
 refine hK.out _ _ s0 (fun hHeld => ?_)
 clear hK K
 (try simp only [Act.put, List.setIfInBounds_toArray, List.set_cons_zero, List.set_cons_succ])
 refine wpAnyH_ready (rs := [8]) (by kernel_rfl) (by simp) ?_
 refine AllReadyH.cons (o := { dst := some 31, op := Op.call { callee := Callee.value (Operand.func 145), args := #[Operand.tmp 24, Operand.tmp 26, Operand.tmp 30], argTypes := #[29, 3, 74] }, type := 74, pos := "world.go:113", after := #[{ on := 1, ground := Ground.data }, { on := 3, ground := Ground.data }, { on := 7, ground := Ground.data }], guard := none }) rfl (fun K hK => ?_) AllReadyH.nil
 go_simp
 refine (HST.out w1.drew HD.out).mono ?_
 rintro r w2 ⟨rfl, B', ha, hc⟩
 have HC := hq9 hc
 have HA := hq9 ha
 have H2 := hq9 (HD.out.step hc ha)
 have s2 : w2.cell? ⟨w.heap.size, 1, none⟩ = some (.int .i64 0) := (BD.out.only hc.only hfb).cell 1
 obtain ⟨w3, hr3, b3, o3, _⟩ := store_cells (P := Tryz.prog) (ds := (wdC { x with f := f' }).toArray) (vs := frC f') (off := 9) H2.out.wd (by simp [wdC, thrC, frC]) (by simp [wdC, thrC, frC]) F2.out
 have s3 : w3.cell? ⟨w.heap.size, 1, none⟩ = some (.int .i64 0) := ((BD.out.only hc.only hfb).only o3 (by simp; omega)).cell 1
 have B3 := hq9 b3
 have O3 := hq9 o3
 clear hc ha b3 o3
 go_wp2_with fail
 refine hK.out _ _ s2 (fun hHeld => ?_)
 clear hK K
 (try simp only [Act.put, List.setIfInBounds_toArray, List.set_cons_zero, List.set_cons_succ])
 refine wpAnyH_take (i := 9) (oi := { dst := some 32, op := Op.nilCheck (Operand.tmp 23), type := 0, pos := "world.go:113", after := #[{ on := 0, ground := Ground.data }, { on := 0, ground := Ground.phase }, { on := 1, ground := Ground.phase }, { on := 2, ground := Ground.phase }, { on := 3, ground := Ground.phase }, { on := 4, ground := Ground.phase }, { on := 5, ground := Ground.phase }, { on := 6, ground := Ground.phase }, { on := 7, ground := Ground.phase }, { on := 8, ground := Ground.phase }], guard := none }) (v := ?_) rfl (by kernel_rfl) (by kernel_rfl) (by kernel_rfl) (fun _ _ _ h => h) (Or.inl ⟨by rfl, ?_⟩) hHeld ?_
 rotate_left 1
 (intro w hSw; (try dsimp only at hSw); go_simp)
 (try with_reducible rfl)
 (try simp only [Act.put, List.setIfInBounds_toArray, List.set_cons_zero, List.set_cons_succ])
 refine wpAnyH_take (i := 10) (oi := { dst := some 33, op := Op.fieldAddr 126 (Operand.tmp 32) 1, type := 0, pos := "world.go:113", after := #[{ on := 9, ground := Ground.data }, { on := 0, ground := Ground.phase }, { on := 1, ground := Ground.phase }, { on := 2, ground := Ground.phase }, { on := 3, ground := Ground.phase }, { on := 4, ground := Ground.phase }, { on := 5, ground := Ground.phase }, { on := 6, ground := Ground.phase }, { on := 7, ground := Ground.phase }, { on := 8, ground := Ground.phase }], guard := none }) (v := ?_) rfl (by kernel_rfl) (by kernel_rfl) (by kernel_rfl) (fun _ _ _ h => h) (Or.inl ⟨by rfl, ?_⟩) hHeld ?_
 rotate_left 1
 (intro w hSw; (try dsimp only at hSw); go_simp)
 (try with_reducible rfl)
 (try simp only [Act.put, List.setIfInBounds_toArray, List.set_cons_zero, List.set_cons_succ])
 refine wpAnyH_ready (rs := [11]) (by kernel_rfl) (by simp) ?_
 refine AllReadyH.cons (o := { dst := none, op := Op.store 74 (Operand.tmp 33) (Operand.tmp 31), type := 0, pos := "world.go:113", after := #[{ on := 10, ground := Ground.data }, { on := 8, ground := Ground.data }, { on := 8, ground := Ground.chain }, { on := 0, ground := Ground.phase }, { on := 1, ground := Ground.phase }, { on := 2, ground := Ground.phase }, { on := 3, ground := Ground.phase }, { on := 4, ground := Ground.phase }, { on := 5, ground := Ground.phase }, { on := 6, ground := Ground.phase }, { on := 7, ground := Ground.phase }, { on := 8, ground := Ground.phase }], guard := none }) rfl (fun K hK => ?_) AllReadyH.nil
 go_simp
 refine hK.out _ _ s3 (fun hHeld => ?_)
 clear hK K
 (try simp only [Act.put, List.setIfInBounds_toArray, List.set_cons_zero, List.set_cons_succ])
 refine wpAnyH_done (by kernel_rfl) ?_ _
 refine NoPanic.normal ?_
 (try simp only [Act.put, List.setIfInBounds_toArray, List.set_cons_zero, List.set_cons_succ])
 have c14 : w3.cell? ⟨g, 14, none⟩ = some (.int .i64 7) := by rw [← HP.out]; exact B3.out.cell 14
 have c131 : w3.cell? ⟨g, 131, none⟩ = some (.slice (some ⟨sb, 0, none⟩) 1 sc) := by rw [← HSX.out]; exact B3.out.cell 131
 have c37 : w3.cell? ⟨g, 37, none⟩ = some (.int .i64 0) := by rw [← HSY.out]; exact B3.out.cell 37
 go_wp2_with fail
 clear c14
 go_region_held3 (fun W => W.cell? ⟨g, 131, none⟩ = some (.slice (some ⟨sb, 0, none⟩) 1 sc) ∧ W.cell? ⟨g, 37, none⟩ = some (.int .i64 0)) (first | (exact ⟨c131, c37⟩) | go_keep) (first | fail)
 clear c131 c37
 have S3 := hq9 ((HSB.out.only (OD.out.trans0 (Only.refl [] _)) (by simp)).only (HC.out.only.mono (T := g :: turnT gd cb B) (fun b hb => List.mem_cons_of_mem _ hb) |>.trans O3.out (fun b hb => .inl (by simp at hb; simp [hb]))) (by simp only [List.mem_cons, not_or]; exact ⟨HSN.out.1, HSN.out.2⟩))
 have B4 := hq9 B3.out.drew
 have H4 := hq9 ((H2.out.own O3.out B3.out rfl).keep (Only.refl [] _).drew)
 have S4 := hq9 S3.out.drew
 have O4 := hq9 O3.out.drew
 generalize w3.drew = w4 at *
 have HSC := hq9 (show ∀ (i : Nat) v, (stoC putC (ansC 0 false ⟨#[]⟩ 0) 1 (-1))[i]? = some v → w4.drew.cell? ⟨sb, i, none⟩ = some v from fun i v hv => by
  have hi : i < 14 := (List.getElem?_eq_some_iff.1 hv).1
  rw [S4.out.drew.cell, ← Array.getElem?_toList, ← List.getElem?_take_of_lt hi, HSS.out, hv])
 have HY := hq9 (show ∀ W, Blk W g 129 (wdC { x with f := f' }).toArray → W.cell? ⟨g, 31, none⟩ = some (.int .i64 f'.code) ∧ W.cell? ⟨g, 32, none⟩ = some (.bool f'.found) ∧ W.cell? ⟨g, 33, none⟩ = some (.string f'.aval) ∧ W.cell? ⟨g, 34, none⟩ = some (.slice none 0 0) ∧ W.cell? ⟨g, 35, none⟩ = some (.slice none 0 0) ∧ W.cell? ⟨g, 36, none⟩ = some (.int .u64 f'.aep) ∧ W.cell? ⟨g, 128, none⟩ = some (.int .i64 x.steps) from fun W hb => ⟨hb.cell 31, hb.cell 32, hb.cell 33, hb.cell 34, hb.cell 35, hb.cell 36, hb.cell 128⟩)
 have hgs : g ≠ sb := fun e => HSN.out.1 e.symm
 have hk : ∀ W, Only [sb] w4 W → Blk W.drew g 129 (wdC { x with f := f' }).toArray := fun W o => (B4.out.only o (by simpa using hgs)).drew
 have OC := hq9 (show Only [sb] w4 ((((((w4.setCell ⟨sb, 6, none⟩ (.int .i64 f'.code)).setCell ⟨sb, 7, none⟩ (.bool f'.found)).setCell ⟨sb, 8, none⟩ (.string f'.aval)).setCell ⟨sb, 9, none⟩ (.slice none 0 0)).setCell ⟨sb, 10, none⟩ (.slice none 0 0)).setCell ⟨sb, 11, none⟩ (.int .u64 f'.aep)) from by
  have hs : ∀ {W' : World} (i : Nat) (v : Value), Only [sb] w4 W' → Only [sb] w4 (W'.setCell ⟨sb, i, none⟩ v) := fun i v ho => ho.setCell (p := ⟨sb, i, none⟩) (.inl (by simp)) v
  exact hs _ _ (hs _ _ (hs _ _ (hs _ _ (hs _ _ (hs _ _ (Only.refl _ _)))))))
 have OE := hq9 (show ∀ v, Only [sb] w4 (((((((w4.setCell ⟨sb, 6, none⟩ (.int .i64 f'.code)).setCell ⟨sb, 7, none⟩ (.bool f'.found)).setCell ⟨sb, 8, none⟩ (.string f'.aval)).setCell ⟨sb, 9, none⟩ (.slice none 0 0)).setCell ⟨sb, 10, none⟩ (.slice none 0 0)).setCell ⟨sb, 11, none⟩ (.int .u64 f'.aep)).setCell ⟨sb, 13, none⟩ v) from fun v => OC.out.setCell (p := ⟨sb, 13, none⟩) (.inl (by simp)) v)
 have t0 := HY.out _ (hk w4 (Only.refl _ _))
 have t1 := HY.out _ (hk _ OC.out)
 have t2 := fun v => HY.out _ (hk _ (OE.out v))
 have e6 : w4.drew.cell? ⟨sb, 6, none⟩ = some (.int .i64 0) := HSC.out 6 _ rfl
 have z6 := S4.out.drew.frozen 6
 have y6 : w4.cell? ⟨sb, 6, none⟩ = some (.int .i64 0) := HSC.out 6 _ rfl
 have x6 := S4.out.frozen 6
 have e7 : w4.drew.cell? ⟨sb, 7, none⟩ = some (.bool false) := HSC.out 7 _ rfl
 have z7 := S4.out.drew.frozen 7
 have y7 : w4.cell? ⟨sb, 7, none⟩ = some (.bool false) := HSC.out 7 _ rfl
 have x7 := S4.out.frozen 7
 have e8 : w4.drew.cell? ⟨sb, 8, none⟩ = some (.string ⟨#[]⟩) := HSC.out 8 _ rfl
 have z8 := S4.out.drew.frozen 8
 have y8 : w4.cell? ⟨sb, 8, none⟩ = some (.string ⟨#[]⟩) := HSC.out 8 _ rfl
 have x8 := S4.out.frozen 8
 have e9 : w4.drew.cell? ⟨sb, 9, none⟩ = some (.slice none 0 0) := HSC.out 9 _ rfl
 have z9 := S4.out.drew.frozen 9
 have y9 : w4.cell? ⟨sb, 9, none⟩ = some (.slice none 0 0) := HSC.out 9 _ rfl
 have x9 := S4.out.frozen 9
 have e10 : w4.drew.cell? ⟨sb, 10, none⟩ = some (.slice none 0 0) := HSC.out 10 _ rfl
 have z10 := S4.out.drew.frozen 10
 have y10 : w4.cell? ⟨sb, 10, none⟩ = some (.slice none 0 0) := HSC.out 10 _ rfl
 have x10 := S4.out.frozen 10
 have e11 : w4.drew.cell? ⟨sb, 11, none⟩ = some (.int .u64 0) := HSC.out 11 _ rfl
 have z11 := S4.out.drew.frozen 11
 have y11 : w4.cell? ⟨sb, 11, none⟩ = some (.int .u64 0) := HSC.out 11 _ rfl
 have x11 := S4.out.frozen 11
 have e13 : w4.drew.cell? ⟨sb, 13, none⟩ = some (.int .i64 (-1)) := HSC.out 13 _ rfl
 have z13 := S4.out.drew.frozen 13
 have y13 : w4.cell? ⟨sb, 13, none⟩ = some (.int .i64 (-1)) := HSC.out 13 _ rfl
 have x13 := S4.out.frozen 13
 have OZ := hq9 hk
 clear hk
 go_wp2_with fail
 go_region_held3 (fun W => W.cell? ⟨g, 31, none⟩ = some (.int .i64 f'.code) ∧ W.cell? ⟨g, 32, none⟩ = some (.bool f'.found) ∧ W.cell? ⟨g, 33, none⟩ = some (.string f'.aval) ∧ W.cell? ⟨g, 34, none⟩ = some (.slice none 0 0) ∧ W.cell? ⟨g, 35, none⟩ = some (.slice none 0 0) ∧ W.cell? ⟨g, 36, none⟩ = some (.int .u64 f'.aep) ∧ W.cell? ⟨g, 128, none⟩ = some (.int .i64 x.steps))
  (first | (with_reducible assumption) | (with_reducible exact t0) | (with_reducible exact t1) | (with_reducible exact t2 _) | go_keep)
  (first | fail)
 have OF := hq9 (OE.out (.int .i64 (IntKind.i64.wrap (x.steps + 1)))).drew
 have HF := hq9 (H4.out.apart OF.out ⟨HSN.out.1, fun hm => by
  unfold turnT at hm
  simp only [List.mem_cons] at hm
  have q0 := HSN.out.2
  unfold turnT at q0
  simp only [List.mem_cons, not_or] at q0
  rcases hm with q | q | q
  ·exact q0.1 q
  ·exact q0.2.1 q
  ·rcases HC.out.own _ q with r | r
   ·exact q0.2.2 r
   ·have := HSB.out.lt; have := OD.out.size; omega⟩)
 have OG := hq9 (O4.out.mono (T := [g]) (by simp))
 clear t0 t1 t2 e6 z6 y6 x6 e7 z7 y7 x7 e8 z8 y8 x8 e9 z9 y9 x9 e10 z10 y10 x10 e11 z11 y11 x11 e13 z13 y13 x13
 clear S3 S4 HSC HY OC OE OZ
 generalize (World.drew (World.setCell _ _ _)) = w5 at *
 have hds : (wdC { x with f := f' }).toArray.toList.take 8 ++ thrC false noF 0 ++ (wdC { x with f := f' }).toArray.toList.drop (8 + (thrC false noF 0).length) = (wdC { x with busy := false, f := noF, story := 0 }).toArray.toList := by rfl
 have hft : 8 + (thrC false noF 0).length ≤ (wdC { x with f := f' }).toArray.size := by simp [wdC, thrC, frC]
 have hone : (thrC false noF 0).toArray.all (·.oneCell') = true := one_of rfl
 have hsz : (Tryz.prog.info? 126).map (·.size) = some (thrC false noF 0).length := by kernel_rfl
 have HDS := hq9 hds
 have HFT := hq9 hft
 have HON := hq9 hone
 have HSZ := hq9 hsz
 clear hds hft hone hsz
 go_wp2_with ((with_reducible show wpList _ _ _ (Oper.mk none _ _ _ _ _ :: _) _ _); refine wpList_store_part rfl 126 (.tmp 67) (.tmp 66) rfl g 8 (thrC false noF 0) rfl rfl 129 _ HF.out.wd (wdC { x with busy := false, f := noF, story := 0 }).toArray HDS.out HFT.out HSZ.out HON.out ?_; intro w6 b6 o6 _; have B6 := hq9 b6; have O6 := hq9 o6; clear b6 o6)
 go_ret
 have GW := hq9 (HF.out.own O6.out B6.out rfl)
 have E1 := OD.out.mono (T := g :: sb :: turnT gd cb B) (by simp)
 have E2 := E1.trans HC.out.only (fun b hb => .inl (List.mem_cons_of_mem _ (List.mem_cons_of_mem _ hb)))
 have E3 := E2.trans O4.out (fun b hb => .inl (by simp at hb; simp [hb]))
 have GO := hq9 ((E3.trans OF.out (fun b hb => .inl (by simp at hb; simp [hb]))).trans O6.out (fun b hb => .inl (by simp at hb; simp [hb])))
 have GN := hq9 (fun b (hb : b ∈ (arFs B').flatten) => (HC.out.own b hb).imp id (fun q => Nat.le_trans OD.out.size q))
 refine ⟨rfl, B', HA.out, ?_, ?_, ?_⟩
 ·exact GW.out
 ·exact GO.out
 ·intro b y hy hb
  have := GN.out b (List.mem_flatten.2 ⟨y, hy, hb⟩)
  rwa [List.mem_flatten] at this
end Go.Proofs.YtlggichakafkiaaGreat
namespace Go.Proofs.YtlggichakafkiaaGreat
open Go.BigFrame Go.RowKit Go.Proofs.FuMem Go.Proofs.FuTop
set_option maxRecDepth 100000
set_option maxHeartbeats 4000000 in
theorem world_Do (g : Nat) (ev : List Value) (k : Nat) (fid : FuncId) (w : World) (h0 : ev[0]? = some (.int .i64 k)) (hlen : ev.length = 9) (hk : 1 ≤ k) (hf : doingsE[k - 1]? = some (.func (.func fid) #[] #[]))
  (hent : ∀ w, (callFunc fid #[.pointer (some ⟨g, 0, none⟩), .agg ev.toArray]).run Tryz.prog w = .ok (.enter fid #[.pointer (some ⟨g, 0, none⟩), .agg ev.toArray]) w) (steps : Int) (R : World → World → Prop)
  (HS : ∀ w1, Only [] w w1 → Calls Tryz.prog fid #[.pointer (some ⟨g, 0, none⟩), .agg ev.toArray] w1 fun r w' => r = .returned (.int .i64 0) ∧ w'.cell? ⟨g, 128, none⟩ = some (.int .i64 steps) ∧ w'.frozen? ⟨g, 128, none⟩ = false ∧ R w1 w') :
  Calls Tryz.prog 17 #[.pointer (some ⟨g, 0, none⟩), .agg ev.toArray] w fun r w' => r = .returned (.int .i64 0) ∧ ∃ w1 w2, Only [] w w1 ∧ R w1 w2 ∧ w' = w2.setCell ⟨g, 128, none⟩ (.int .i64 (wrap64 (steps + 1))) := by
 have B1 := hq9 (Blk.new w 42 ev.toArray)
 have O1 := hq9 ((Only.refl [] w).alloc (.cells ev.toArray 42))
 have HSS := hq9 HS
 have HK := hq9 hk
 have HF := hq9 hf
 have H0 := hq9 h0
 have HN := hq9 hlen
 have HTK := hq9 (show (ev.toArray.toList.drop 0).take ev.length = ev by simp)
 have HSZ := hq9 (show (Tryz.prog.info? 42).map (·.size) = some ev.length by rw [hlen]; kernel_rfl)
 clear HS hk hf h0 hlen
 go_enter Tryz.func17, Tryz.ntmps17
 go_wp2_with fail
 generalize (w.alloc _) = w1 at *
 have s0 : w1.drew.cell? ⟨w.heap.size, 0, none⟩ = some (.int .i64 k) := by rw [B1.out.drew.cell, List.getElem?_toArray, H0.out]
 have BD := hq9 B1.out.drew
 have OD := hq9 O1.out.drew
 clear B1 O1
 go_region_held3 (fun W => W.cell? ⟨w.heap.size, 0, none⟩ = some (.int .i64 k))
  (first | (with_reducible assumption) | (with_reducible exact s0) | (with_reducible exact s1) | go_keep)
  (first | (go_at_call 58; (with_reducible refine (world_doings w1.drew).mono ?_); rintro r w2 ⟨mb, rfl, hl, o2⟩; have HL := hl k _ HK.out HF.out; have B2 := hq9 (BD.out.only o2 (by simp)); have O2 := hq9 (OD.out.trans0 o2); have s1 : w2.cell? ⟨w.heap.size, 0, none⟩ = some (.int .i64 k) := (by rw [B2.out.cell, List.getElem?_toArray, H0.out]); clear hl o2))
 clear s0 s1 HL
 go_wp2_with ((with_reducible show wpList _ _ _ (Oper.mk (some 23) _ _ _ _ _ :: _) _ _); refine wpList_load_part rfl 42 (.tmp 3) rfl w.heap.size 0 rfl 42 _ B2.out ev HTK.out _ Tryz.underlying42 rfl HSZ.out ?_)
 refine (HSS.out w2 O2.out).mono ?_
 rintro r w3 ⟨rfl, c, z, hR⟩
 have HR := hq9 hR
 clear hR
 go_wp2
 go_ret
 exact ⟨rfl, w2, w3, O2.out, HR.out, rfl⟩
end Go.Proofs.YtlggichakafkiaaGreat
namespace Go.Proofs.YtlggichakafkiaaGreat
open Go.BigFrame Go.RowKit Go.Proofs.FuMem Go.Proofs.FuTop Go.Proofs.FuNvm Go.Proofs.FuPool Go.Proofs.FuClk
set_option maxRecDepth 100000
set_option maxHeartbeats 4000000 in
theorem world_New (n t : Nat) (w : World) (h10 : 10 ≤ n) (h258 : n ≤ 258) (h1 : 1 ≤ t) (h4 : t ≤ 4) :
  Calls Tryz.prog 15 #[.agg #[.int .i64 n, .int .i64 t, .int .i64 0]] w fun r w' => ∃ g gd cb B, r = .returned (.tuple #[.pointer (some ⟨g, 0, none⟩), .int .i64 0]) ∧ WdIn w' g gd cb n ⟨n, t, 0, gd, B.a, false, noF, 0, 0, 0, .slice none 0 0, .slice none 0 0⟩ B (upS t 0 n) (formatD (newDev n)) ∧ Only [] w w' ∧ w.heap.size ≤ g ∧ ∀ b ∈ turnT gd cb B, w.heap.size ≤ b := by
 have OA := hq9 ((Only.refl [] w).alloc (.cells #[.int .i64 n, .int .i64 t, .int .i64 0] 27))
 have BA := hq9 (Blk.new w 27 #[.int .i64 n, .int .i64 t, .int .i64 0])
 have HNW := hq9 (fun w => arena_New n t w h10 h258 h1 h4)
 clear h10 h258 h1 h4
 go_enter Tryz.func15, Tryz.ntmps15
 go_wp2_with fail
 generalize (w.alloc _) = w1 at *
 refine (HNW.out w1).mono ?_
 rintro r w2 ⟨gd, cb, B, rfl, har, hdev, o2, hg, hc, hfr⟩
 have HAR := hq9 har
 have HDV := hq9 hdev
 have HFR := hq9 (And.intro hg (And.intro hc hfr))
 have O2 := hq9 (OA.out.trans0 o2)
 have B2 := hq9 (BA.out.only o2 (by simp))
 have HS1 := hq9 OA.out.size
 clear har hdev hg hc hfr o2 BA OA
 go_wp2_with fail
 unfold pt
 have HS := hq9 (show ∀ W, Only [] w2 W → W.cell? ⟨w.heap.size, 0, none⟩ = some (.int .i64 n) ∧ W.cell? ⟨w.heap.size, 1, none⟩ = some (.int .i64 t) ∧ W.cell? ⟨w.heap.size, 2, none⟩ = some (.int .i64 0) from fun W o => ⟨(B2.out.only o (by simp)).cell 0, (B2.out.only o (by simp)).cell 1, (B2.out.only o (by simp)).cell 2⟩)
 have OD := hq9 (Only.refl [] w2).drew
 have s0 := HS.out _ OD.out
 have s1 := fun o => HS.out _ ((Only.refl [] w2).alloc o)
 have s2 := fun o => HS.out _ ((Only.refl [] w2).alloc o).drew
 have HA := hq9 (HAR.out.keep0 OD.out)
 go_region_held3 (fun W => W.cell? ⟨w.heap.size, 0, none⟩ = some (.int .i64 n) ∧ W.cell? ⟨w.heap.size, 1, none⟩ = some (.int .i64 t) ∧ W.cell? ⟨w.heap.size, 2, none⟩ = some (.int .i64 0))
  (first | (with_reducible assumption) | (with_reducible exact s0) | (with_reducible exact s1 _) | (with_reducible exact s2 _) | go_keep)
  (first | (go_at_call 57; (with_reducible refine (arena_Dev w2.drew HA.out).mono ?_); rintro r w' ⟨rfl, rfl⟩))
 clear s0 s1 s2
 have BW := hq9 (fun cs : Array Value => Blk.drew (Blk.new w2 129 cs))
 have OW := hq9 (fun cs : Array Value => ((Only.refl [] w2).alloc (.cells cs 129)).drew)
 have GL := hq9 (show gd < w2.heap.size ∧ cb < w2.heap.size from ⟨HDV.out.head.lt, by obtain ⟨cs, hb, _⟩ := HDV.out.body; exact hb.lt⟩)
 go_wp2
 go_ret2
 refine ⟨w2.heap.size, gd, cb, B, rfl, ⟨BW.out _, ChIn.start (HAR.out.keep0 (OW.out _)) (HDV.out.only0 (OW.out _)) (fun hm => (HFR.out.2.2 _ hm).2.1 rfl) (fun hm => (HFR.out.2.2 _ hm).2.2 rfl) ⟨Nat.lt_of_lt_of_le GL.out.1 (OW.out _).size, Nat.lt_of_lt_of_le GL.out.2 (OW.out _).size⟩, fun hm => ?_, rfl⟩, O2.out.trans0 (OW.out _), O2.out.size, fun b hb => ?_⟩
 unfold turnT at hm
 simp only [List.mem_cons] at hm
 rcases hm with q | q | q
 ·have := GL.out.1; omega
 ·have := GL.out.2; omega
 ·have := HAR.out.lt _ q; omega
 ·unfold turnT at hb
  simp only [List.mem_cons] at hb
  have h1 := HS1.out
  rcases hb with q | q | q
  ·have := HFR.out.1; omega
  ·have := HFR.out.2.1; omega
  ·have := (HFR.out.2.2 _ q).1; omega
end Go.Proofs.YtlggichakafkiaaGreat
namespace Go.Proofs.YtlggichakafkiaaGreat
open Go.BigFrame Go.RowKit Go.Proofs.FuMem Go.Proofs.FuTop Go.Proofs.FuNvm Go.Proofs.FuPool Go.Proofs.FuClk Go.Proofs.FuCode Go.Proofs.FuBlock Go.Proofs.FuClass
set_option maxRecDepth 100000
theorem world_Dev (g gd cb cap : Nat) (x : Wd) (B : ArB) (S : ArS) (D : Dev) (w : World) (h : WdIn w g gd cb cap x B S D) (hd : x.d = gd) :
  Calls Tryz.prog 30 #[.pointer (some ⟨g, 0, none⟩)] w fun e w' => ∃ g2 cb2 cap2, e = .returned (.pointer (some ⟨g2, 0, none⟩)) ∧ DevAt w' g2 cb2 cap2 D ∧ Only [] w w' ∧ w.heap.size ≤ g2 ∧ w.heap.size ≤ cb2 := by
 have c3 : w.cell? ⟨g, 3, none⟩ = some (.pointer (some ⟨gd, 0, none⟩)) := by rw [← hd]; exact h.wd.cell 3
 have HCC := hq9 (nvm_Copy gd cb cap D w h.ch.dev)
 clear h hd
 go_enter Tryz.func30, Tryz.ntmps30
 go_wp2_with fail
 refine HCC.out.mono ?_
 rintro r w' ⟨g2, cb2, cap2, rfl, hr⟩
 have HQ := hq9 hr
 clear hr
 go_wp2
 go_ret
 exact ⟨g2, cb2, cap2, rfl, HQ.out⟩
theorem world_store (g gd cb cap : Nat) (x : Wd) (B : ArB) (S : ArS) (D : Dev) (w : World) (h : WdIn w g gd cb cap x B S D) :
  Calls Tryz.prog 64 #[.pointer (some ⟨g, 0, none⟩)] w fun e w' => e = .returned (.pointer (some ⟨B.a, 0, none⟩)) ∧ w = w' := by
 have c4 : w.cell? ⟨g, 4, none⟩ = some (.pointer (some ⟨B.a, 0, none⟩)) := by rw [← h.a]; exact h.wd.cell 4
 clear h
 go_enter Tryz.func64, Tryz.ntmps64
 go_wp2
 go_ret
 exact ⟨rfl, rfl⟩
set_option maxHeartbeats 4000000 in
theorem world_Shelf (g gd cb cap : Nat) (x : Wd) (B : ArB) (S : ArS) (D : Dev) (w : World) (h : WdIn w g gd cb cap x B S D) (hk : ∀ k, k ∈ S.T ∨ k ∈ S.L → (-9223372036854775808 ≤ k.cls ∧ k.cls ≤ 9223372036854775807) ∧ k.line ≤ 100000) (hT : S.T.length ≤ 1000) (hL : S.L.length ≤ 1000) :
  Calls Tryz.prog 24 #[.pointer (some ⟨g, 0, none⟩)] w fun r w' => ∃ pv qv, r = .returned (.agg #[pv, qv]) ∧ RowS 118 2 w' pv ((shelfOf (bytesAt D) S.T S.L).pairs.map pairC) ∧ RowS 9 1 w' qv ((shelfOf (bytesAt D) S.T S.L).queue.map textC) ∧ Only [] w w' := by
 have B1 := hq9 (Blk.new w 60 #[.slice none 0 0, .slice none 0 0])
 have O1 := hq9 ((Only.refl [] w).alloc (.cells #[.slice none 0 0, .slice none 0 0] 60))
 have HST := hq9 (fun W (o : Only [] w W) => world_store g gd cb cap x B S D W (h.keep o))
 have HSH := hq9 (fun W (o : Only [] w W) => arena_Shelf gd cb cap D B S W (h.keep o).ch.ar (h.keep o).ch.dev hk hT hL)
 clear h hk hT hL
 go_enter Tryz.func24, Tryz.ntmps24
 go_wp2_with fail
 generalize (w.alloc _) = w1 at *
 refine (HST.out w1 O1.out).mono ?_
 rintro r w' ⟨rfl, rfl⟩
 go_wp2_with fail
 refine (HSH.out w1 O1.out).mono ?_
 rintro r w2 ⟨pv, qv, rfl, hp, hq, o2, np, nq⟩
 obtain ⟨A1, c1, rfl, _, _⟩ := hp.slice
 obtain ⟨A2, c2, rfl, _, _⟩ := hq.slice
 have B2 := B1.out.only o2 (by simp)
 have HLT := B1.out.lt
 have os0 := (Only.refl [w.heap.size] w2).setCell (p := ⟨w.heap.size, 0, none⟩) (.inl (by simp)) (.slice A1 ((shelfOf (bytesAt D) S.T S.L).pairs.map pairC).length c1)
 have os := os0.setCell (p := ⟨w.heap.size, 1, none⟩) (.inl (by simp)) (.slice A2 ((shelfOf (bytesAt D) S.T S.L).queue.map textC).length c2)
 have B3 := hq9 ((B2.set 0 (.slice A1 ((shelfOf (bytesAt D) S.T S.L).pairs.map pairC).length c1)).set 1 (.slice A2 ((shelfOf (bytesAt D) S.T S.L).queue.map textC).length c2))
 have P3 := hq9 (hp.only os (fun b hb hm => by simp at hm; have := np b hb; omega))
 have Q3 := hq9 (hq.only os (fun b hb hm => by simp at hm; have := nq b hb; omega))
 have O3 := hq9 ((O1.out.trans0 o2).trans os (fun b hb => .inr (by simp at hb; omega)))
 have d0 := B2.cell 0
 have d1 := B2.cell 1
 have z0 := B2.frozen 0
 have z1 := B2.frozen 1
 clear hp hq o2 np nq B2 os os0
 simp only [List.length_map] at B3 P3 Q3 O3
 go_wp2
 exact bodyPost_ret (results_cell_row rfl _ _ w.heap.size 60 _ _ _ rfl B3.out Tryz.underlying60 rfl (by kernel_rfl)) rfl ⟨_, _, rfl, P3.out, Q3.out, O3.out⟩
end Go.Proofs.YtlggichakafkiaaGreat