/- A store over a device in which blocks lie: the walk of Over. (printed by gen-over.py) -/
import Derived.BigQuiet
import Derived.Test.YtlggichakafkiaaGreatGTopHostile1
import Derived.Test.YtlggichakafkiaaGreatGTopHostile2
import Derived.Test.YtlggichakafkiaaGreatGTopHostile3
import Derived.Test.YtlggichakafkiaaGreatGTopHostile4
import Derived.Test.YtlggichakafkiaaGreatGTopHostile5
import Derived.Test.YtlggichakafkiaaGreatGTopHostile6
import Derived.Test.YtlggichakafkiaaGreatGTopHostile7
import Derived.Test.YtlggichakafkiaaGreatGTopHostile8
import Derived.Test.YtlggichakafkiaaGreatGTopHostile9
set_option linter.unusedSimpArgs false
set_option linter.unusedVariables false
namespace Go.Proofs.YtlggichakafkiaaGreat
open Go.BigFrame Go.RowKit Go.Proofs.FuMem Go.Proofs.FuTop Go.Proofs.FuNvm Go.Proofs.FuPool Go.Proofs.FuClk Go.Proofs.FuBlock Go.Proofs.FuClass Go.Proofs.FuCrc
set_option maxRecDepth 100000
def OverAns (gd n e N : Nat) (ov : Option Ar) (w0 w : World) (r : Ending) : Prop := match ov with
 | none => ∃ x : Int, x ≠ 0 ∧ r = .returned (.tuple #[.pointer none, .int .i64 x])
 | some A => ∃ (B : ArB) (Ls : List (List FuTop.Link)), r = .returned (.tuple #[pt B.a, .int .i64 0]) ∧ ArAt w gd B (ovS n e N A Ls A.line) ∧ ∀ b ∈ (arFs B).flatten, w0.heap.size ≤ b
theorem OverAns.no {gd n e N : Nat} {w0 w : World} {x : Int} (h : x ≠ 0) : OverAns gd n e N none w0 w (.returned (.tuple #[.pointer none, .int .i64 x])) := ⟨x, h, rfl⟩
theorem fresh_lev {B : ArB} {us vs : List Value} {G : List Nat} {base : Nat} (h : ∀ b ∈ (arFs { B with ov := us } ++ [G]).flatten, base ≤ b) (hv : ∀ c ∈ ownsOf vs, c ∈ ownsOf us ∨ base ≤ c) : ∀ b ∈ (arFs { B with ov := vs } ++ [G]).flatten, base ≤ b := by
 intro b hb
 unfold arFs at h hb
 simp only [List.cons_append, List.nil_append, List.flatten_cons, List.flatten_nil, List.append_nil, List.mem_append, List.mem_cons] at h hb
 have key : b ∈ ownsOf vs → base ≤ b := fun hm => by
  rcases hv b hm with h1 | h1
  ·exact h b (by simp [h1])
  ·exact h1
 grind
theorem fresh_line {B : ArB} {us : List Value} {lv lv2 : Value} {G : List Nat} {base : Nat} (h : ∀ b ∈ (arFs { B with ov := us, lv := lv } ++ [G]).flatten, base ≤ b) (hv : ∀ b, lv2.ownBlock = some b → base ≤ b) : ∀ b ∈ (arFs { B with ov := us, lv := lv2 } ++ [G]).flatten, base ≤ b := by
 intro b hb
 unfold arFs at h hb
 simp only [List.cons_append, List.nil_append, List.flatten_cons, List.flatten_nil, List.append_nil, List.mem_append, List.mem_cons] at h hb
 have key : b ∈ lv2.ownBlock.toList → base ≤ b := fun hm => hv b (own_mem.1 hm)
 grind
theorem fresh_row {B : ArB} {F G : List Nat} {base : Nat} (h : ∀ b ∈ (arFs B ++ [F]).flatten, base ≤ b) (hv : ∀ c ∈ G, c ∈ F ∨ base ≤ c) : ∀ b ∈ (arFs B ++ [G]).flatten, base ≤ b := by
 intro b hb
 rw [List.flatten_append, List.mem_append] at hb
 rcases hb with hb | hb
 ·exact h b (by rw [List.flatten_append]; exact List.mem_append_left _ hb)
 ·have hb' : b ∈ G := by simpa using hb
  rcases hv b hb' with h1 | h1
  ·exact h b (by rw [List.flatten_append]; exact List.mem_append_right _ (by simpa using h1))
  ·exact h1
theorem setLev_bd {n i : Nat} {x : FuTop.Link} {Ls : List (List FuTop.Link)} (h : ∀ L ∈ Ls, Rising L ∧ L.length ≤ i) : ∀ L ∈ setLev n x Ls, Rising L ∧ L.length ≤ i + 1 := by
 intro L hL
 obtain ⟨k, hk, rfl⟩ := List.mem_mapIdx.1 hL
 have h1 := h _ (List.getElem_mem hk)
 show Rising (if k < n then ins x Ls[k] else Ls[k]) ∧ (if k < n then ins x Ls[k] else Ls[k]).length ≤ i + 1
 split
 ·exact ⟨ins_rising h1.1, by have := ins_length x Ls[k]; omega⟩
 ·exact ⟨h1.1, by omega⟩
theorem may_mk (b : Block) : may (mkB b.cls b.kind b.id b.ver b.ep ⟨b.key.toArray⟩ ⟨b.val.toArray⟩) = may b := by
 congr 1
theorem overOf_big {srt : List FuTop.Link → List FuTop.Link} {N : Nat} {F : List FuTop.Found} {x : FuTop.Found} (hx : x ∈ F) (h : big x = true) : overOf srt N F = none := by
 unfold overOf
 rw [if_pos (List.any_eq_true.2 ⟨x, hx, h⟩)]
theorem overOf_one {srt : List FuTop.Link → List FuTop.Link} {N i : Nat} {F : List FuTop.Found} {x : FuTop.Found} {A : Ar} (hx : F[i]? = some x) (hA : overAll (emptyA N) (F.take i) = some A) (h : over1 A x = none) : overOf srt N F = none := by
 have h1 : overAll (emptyA N) (F.take (i + 1)) = none := by
  rw [List.take_add_one, hx]
  show overAll (emptyA N) (F.take i ++ [x]) = none
  rw [overAll_snoc hA, h]
 have h2 : overAll (emptyA N) F = none := by
  have := overAll_none (m := F.drop (i + 1)) h1
  rwa [List.take_append_drop] at this
 unfold overOf
 split
 ·rfl
 ·rw [h2]; rfl
theorem overAll_take {N i : Nat} {F : List FuTop.Found} {x : FuTop.Found} {A : Ar} (hx : F[i]? = some x) (hA : overAll (emptyA N) (F.take i) = some A) : overAll (emptyA N) (F.take (i + 1)) = over1 A x := by
 rw [List.take_add_one, hx]
 exact overAll_snoc hA
set_option maxHeartbeats 16000000 in
theorem arena_Over (gd cb cap : Nat) (D : Dev) (n e : Nat) (v : Value) (F : List FuTop.Found) (w : World) (hd : DevAt w gd cb cap D) (h10 : 10 ≤ D.lines.length) (h1 : 1 ≤ n) (h4 : n ≤ 4) (he : e ≤ 1152921504606846976) (hr : RowS 339 9 w v (F.map foundC)) (hF : ∀ x ∈ F, Bd x) (hn : F.length ≤ 1000) :
  Calls Tryz.prog 198 #[.pointer (some ⟨gd, 0, none⟩), .int .i64 n, .int .u64 e, v] w fun r w' => OverAns gd n e D.lines.length (overOf srtL D.lines.length F) w w' r ∧ Only [] w w' := by
 have HM := hq9 (arena_made gd cb cap D n e w hd h10 h1 h4 he)
 unfold pt at HM
 obtain ⟨A, c, rfl, hcc, hcm⟩ := hr.slice
 obtain ⟨m, hm⟩ : ∃ m, m = F.length := ⟨_, rfl⟩
 rw [List.length_map, ← hm] at hr
 rw [List.length_map]
 rw [← hm] at hn ⊢
 have HR := hq9 hr
 have HMF := hq9 hm
 have HBD := hq9 hF
 generalize D.lines.length = N at *
 clear hd hr hm hF hcc hcm h10 h1 h4 he
 go_enter Tryz.func198, Tryz.ntmps198
 go_wp2_with fail
 refine HM.out.mono ?_
 rintro r w1 ⟨B0, rfl, a1, o1, n1⟩
 have A1 := hq9 a1
 have O1 := hq9 o1
 have N1 := hq9 n1
 clear a1 o1 n1
 go_wp2_with fail
 go_loopw [35] (fun vi wr => ∃ i : Nat, vi = .int .i64 i ∧ i ≤ m ∧ (∀ t x, t < i → F[t]? = some x → big x = false) ∧ Only [] w1 wr) (fun vi _ => m - (intOf vi).toNat)
 case atStart => exact ⟨0, rfl, by omega, fun t x ht _ => by omega, Only.refl _ _⟩
 case round =>
  obtain ⟨i, rfl, hin, hno, ho⟩ := hrel
  have NO := hq9 hno
  have ON := hq9 ho
  clear hno ho
  by_cases hlt : i < m
  ·have q1 : decide ((i : Int) < (m : Int)) = true := by go_num
   have hiL : i < F.length := by have := HMF.out; omega
   obtain ⟨x, hx⟩ : ∃ x, F[i]? = some x := ⟨_, List.getElem?_eq_getElem hiL⟩
   obtain ⟨bg, rfl, e0, e1, e2, e3, e4, e5, e6, e7, e8⟩ := row_found (HR.out.only0 (O1.out.trans0 ON.out)) hx
   have HX := hq9 hx
   have HB := hq9 (HBD.out x (List.mem_of_getElem? hx))
   have hwr : IntKind.i64.wrap ((i : Int) + 1) = (i : Int) + 1 := by rw [IntKind.wrap_i64]; omega
   clear hx
   obtain ⟨kb, hkb⟩ : ∃ s : ByteArray, s = ⟨x.b.key.toArray⟩ := ⟨_, rfl⟩
   obtain ⟨vb, hvb⟩ : ∃ s : ByteArray, s = ⟨x.b.val.toArray⟩ := ⟨_, rfl⟩
   rw [← hkb] at e7
   rw [← hvb] at e8
   clear hkb hvb
   have BX := hq9 (Blk.new wr 339 #[.int .i64 x.line, .bool x.good, .int .i64 x.b.cls, .int .i64 x.b.kind, .int .u64 x.b.id, .int .u64 x.b.ver, .int .u64 x.b.ep, .string kb, .string vb])
   have OX := hq9 (ON.out.alloc (.cells #[.int .i64 x.line, .bool x.good, .int .i64 x.b.cls, .int .i64 x.b.kind, .int .u64 x.b.id, .int .u64 x.b.ver, .int .u64 x.b.ep, .string kb, .string vb] 339))
   have x4 := BX.out.cell 4
   have x5 := BX.out.cell 5
   by_cases hid : 1152921504606846976 < x.b.id
   ·have c1 : decide ((x.b.id : Int) > 1152921504606846976) = true := by go_num
    have c1b : (1152921504606846976 : Int) < (x.b.id : Int) := by omega
    have HNO := hq9 (show overOf srtL N F = none from overOf_big (List.mem_of_getElem? HX.out) (by unfold big; simp; omega))
    go_wp2_with fail
    generalize (wr.alloc _) = w2 at *
    go_wp2
    go_ret2
    exact ⟨by rw [HNO.out]; exact OverAns.no (by decide), O1.out.trans0 OX.out⟩
   ·by_cases hve : 1152921504606846976 < x.b.ver
    ·have c1 : decide ((x.b.id : Int) > 1152921504606846976) = false := by go_num
     have c1b : ¬ (1152921504606846976 : Int) < (x.b.id : Int) := by omega
     have c2 : decide ((x.b.ver : Int) > 1152921504606846976) = true := by go_num
     have c2b : (1152921504606846976 : Int) < (x.b.ver : Int) := by omega
     have HNO := hq9 (show overOf srtL N F = none from overOf_big (List.mem_of_getElem? HX.out) (by unfold big; simp; omega))
     go_wp2_with fail
     generalize (wr.alloc _) = w2 at *
     go_wp2
     go_ret2
     exact ⟨by rw [HNO.out]; exact OverAns.no (by decide), O1.out.trans0 OX.out⟩
    ·have c1 : decide ((x.b.id : Int) > 1152921504606846976) = false := by go_num
     have c1b : ¬ (1152921504606846976 : Int) < (x.b.id : Int) := by omega
     have c2 : decide ((x.b.ver : Int) > 1152921504606846976) = false := by go_num
     have c2b : ¬ (1152921504606846976 : Int) < (x.b.ver : Int) := by omega
     have HNB := hq9 (show ∀ t y, t < i + 1 → F[t]? = some y → big y = false from fun t y ht hy => by
      by_cases e1 : t = i
      ·rw [e1, HX.out] at hy
       injection hy with hy
       rw [← hy]
       unfold big
       simp
       omega
      ·exact NO.out t y (by omega) hy)
     go_wp2_with fail
     generalize (wr.alloc _) = w2 at *
     go_wp2
     go_roundw
     case rel => exact ⟨i + 1, by go_num, by omega, HNB.out, OX.out⟩
     case measure => simp only [intOf]; omega
  ·have q1 : decide ((i : Int) < (m : Int)) = false := by go_num
   have HALL := hq9 (show F.any big = false from by
    rw [List.any_eq_false]
    intro z hz
    obtain ⟨t, ht⟩ := List.getElem?_of_mem hz
    have := (List.getElem?_eq_some_iff.1 ht).1
    rw [NO.out t z (by have := HMF.out; omega) ht]
    simp)
   have AW0 := hq9 ((A1.out.keep0 ON.out).withRow)
   have O2 := hq9 (O1.out.trans0 ON.out)
   clear NO ON
   go_wp2_with fail
   go_loopw [52, 14] (fun vi vw wr => ∃ (i : Nat) (A : Ar) (us : List Value) (Ls : List (List FuTop.Link)), vi = .int .i64 i ∧ i ≤ m ∧ overAll (emptyA N) (F.take i) = some A ∧ ArGood A i ∧ ArW wr gd { B0 with ov := us } (ovS n e N A Ls []) vw A.line ∧ (∀ L ∈ Ls, Rising L ∧ L.length ≤ i) ∧ (∀ b ∈ (arFs { B0 with ov := us } ++ [vw.ownBlock.toList]).flatten, w.heap.size ≤ b) ∧ Only [] w wr) (fun vi _ _ => m - (intOf vi).toNat)
   case atStart => exact ⟨0, emptyA N, B0.ov, List.replicate 4 [], rfl, by omega, rfl, emptyA_good N, AW0.out, fun L hL => by rw [(List.mem_replicate.1 hL).2]; exact ⟨List.Pairwise.nil, by simp⟩, fun b hb => (by
    rw [List.flatten_append, List.mem_append] at hb
    rcases hb with hb | hb
    ·exact N1.out b hb
    ·simp [Value.ownBlock] at hb), O2.out⟩
   case round =>
    clear AW0 O2
    obtain ⟨i, A, us, Ls, rfl, hin, hov, hg, haw, hls, hfr, ho⟩ := hrel
    have AW := hq9 haw
    have HOV := hq9 hov
    have HG := hq9 hg
    have HLS := hq9 hls
    have HFR := hq9 hfr
    have ON := hq9 ho
    clear haw hov hg hls hfr ho
    by_cases hlt : i < m
    ·have q1 : decide ((i : Int) < (m : Int)) = true := by go_num
     have hiL : i < F.length := by have := HMF.out; omega
     obtain ⟨x, hx⟩ : ∃ x, F[i]? = some x := ⟨_, List.getElem?_eq_getElem hiL⟩
     obtain ⟨bg, rfl, e0, e1, e2, e3, e4, e5, e6, e7, e8⟩ := row_found (HR.out.only0 ON.out) hx
     have HX := hq9 hx
     have HB := hq9 (HBD.out x (List.mem_of_getElem? hx))
     have hwr : IntKind.i64.wrap ((i : Int) + 1) = (i : Int) + 1 := by rw [IntKind.wrap_i64]; omega
     clear hx
     have HMY0 := hq9 (fun w => block_May x.b.cls x.b.kind x.b.id x.b.ver x.b.ep ⟨x.b.key.toArray⟩ ⟨x.b.val.toArray⟩ w (by have := HB.out.c0; have := HB.out.c3; omega) HB.out.id HB.out.ver HB.out.ep (by have := HB.out.key; show x.b.key.toArray.size ≤ _; simp; omega) (by have := HB.out.val; show x.b.val.toArray.size ≤ _; simp; omega))
     rw [may_mk] at HMY0
     unfold blockV at HMY0
     obtain ⟨my, hmy⟩ : ∃ b, b = may x.b := ⟨_, rfl⟩
     rw [← hmy] at HMY0
     have HMY := hq9 hmy
     clear hmy
     have HSL := hq9 (overOf_one (srt := srtL) HX.out HOV.out)
     have HSN := hq9 (overAll_take HX.out HOV.out)
     have HLK : Hid (linkV (linkOf x) = .agg #[.string ⟨x.b.key.toArray⟩, .int .u64 x.b.id, .int .u64 x.b.ver, .int .i64 x.line, .int .i64 x.b.cls]) := rfl
     have HLC : Hid (linkC (linkOf x) = [.string ⟨x.b.key.toArray⟩, .int .u64 x.b.id, .int .u64 x.b.ver, .int .i64 x.line, .int .i64 x.b.cls]) := rfl
     obtain ⟨kb, hkb⟩ : ∃ s : ByteArray, s = ⟨x.b.key.toArray⟩ := ⟨_, rfl⟩
     obtain ⟨vb, hvb⟩ : ∃ s : ByteArray, s = ⟨x.b.val.toArray⟩ := ⟨_, rfl⟩
     rw [← hkb] at e7 HMY0 HLK HLC
     rw [← hvb] at e8 HMY0
     clear hkb hvb
     have OW := (ON.out.alloc (.cells #[.int .i64 x.line, .bool x.good, .int .i64 x.b.cls, .int .i64 x.b.kind, .int .u64 x.b.id, .int .u64 x.b.ver, .int .u64 x.b.ep, .string kb, .string vb] 339)).alloc (.cells #[.int .i64 x.b.cls, .int .i64 x.b.kind, .int .u64 x.b.id, .int .u64 x.b.ver, .int .u64 x.b.ep, .string kb, .string vb] 282)
     have OZ := ((Only.refl [] wr).alloc (.cells #[.int .i64 x.line, .bool x.good, .int .i64 x.b.cls, .int .i64 x.b.kind, .int .u64 x.b.id, .int .u64 x.b.ver, .int .u64 x.b.ep, .string kb, .string vb] 339)).alloc (.cells #[.int .i64 x.b.cls, .int .i64 x.b.kind, .int .u64 x.b.id, .int .u64 x.b.ver, .int .u64 x.b.ep, .string kb, .string vb] 282)
     have BX := hq9 ((Blk.new wr 339 #[.int .i64 x.line, .bool x.good, .int .i64 x.b.cls, .int .i64 x.b.kind, .int .u64 x.b.id, .int .u64 x.b.ver, .int .u64 x.b.ep, .string kb, .string vb]).only ((Only.refl [] _).alloc (.cells #[.int .i64 x.b.cls, .int .i64 x.b.kind, .int .u64 x.b.id, .int .u64 x.b.ver, .int .u64 x.b.ep, .string kb, .string vb] 282)) (by simp))
     have BB := hq9 (Blk.new2 wr (.cells #[.int .i64 x.line, .bool x.good, .int .i64 x.b.cls, .int .i64 x.b.kind, .int .u64 x.b.id, .int .u64 x.b.ver, .int .u64 x.b.ep, .string kb, .string vb] 339) 282 #[.int .i64 x.b.cls, .int .i64 x.b.kind, .int .u64 x.b.id, .int .u64 x.b.ver, .int .u64 x.b.ep, .string kb, .string vb])
     have BX1 := Blk.new wr 339 #[.int .i64 x.line, .bool x.good, .int .i64 x.b.cls, .int .i64 x.b.kind, .int .u64 x.b.id, .int .u64 x.b.ver, .int .u64 x.b.ep, .string kb, .string vb]
     have z0 := BX1.cell 0
     have z1 := BX1.cell 1
     have z2 := BX1.cell 2
     have z3 := BX1.cell 3
     have z4 := BX1.cell 4
     have z5 := BX1.cell 5
     have z6 := BX1.cell 6
     have z7 := BX1.cell 7
     have z8 := BX1.cell 8
     have AW2 := hq9 (AW.out.keep0 OZ)
     have OS2 := hq9 OZ.size
     have HWR := hq9 ON.out.size
     have HNW := hq9 (show ∀ b ∈ (arFs { B0 with ov := us }).flatten, b < wr.heap.size from fun b hb => AW.out.lt b (by rw [List.flatten_append]; exact List.mem_append_left _ hb))
     have O2 := hq9 OW
     clear OW OZ BX1 ON
     go_wp2_with fail
     clear z0 z1 z2 z3 z4 z5 z6 z7 z8 e0 e1 e2 e3 e4 e5 e6 e7 e8
     generalize ((wr.alloc _).alloc _) = w2 at *
     cases hgd : x.good with
     | false =>
       have HSN2 := hq9 (HSL.out (show over1 A x = none by unfold over1; rw [if_neg (fun h => by rw [hgd] at h; cases h.1)]))
       rw [hgd] at BX
       have x0 := BX.out.cell 0
       have x1 := BX.out.cell 1
       have b0 := BB.out.cell 0
       have b1 := BB.out.cell 1
       have b2 := BB.out.cell 2
       have b3 := BB.out.cell 3
       have b4 := BB.out.cell 4
       have b5 := BB.out.cell 5
       have b6 := BB.out.cell 6
       have p1 : w2.cell? ⟨B0.a, 1, none⟩ = some (.pointer (some ⟨B0.p, 0, none⟩)) := AW2.out.head.cell 1
       refine wp_region_later w2 (by kernel_rfl) (by kernel_rfl) ?_
       have fx0 := fun (p : Later w2) => Later.cell p x0
       have fx1 := fun (p : Later w2) => Later.cell p x1
       have fb0 := fun (p : Later w2) => Later.cell p b0
       have fb1 := fun (p : Later w2) => Later.cell p b1
       have fb2 := fun (p : Later w2) => Later.cell p b2
       have fb3 := fun (p : Later w2) => Later.cell p b3
       have fb4 := fun (p : Later w2) => Later.cell p b4
       have fb5 := fun (p : Later w2) => Later.cell p b5
       have fb6 := fun (p : Later w2) => Later.cell p b6
       have fp1 := fun (p : Later w2) => Later.cell p p1
       clear x0 x1 b0 b1 b2 b3 b4 b5 b6 p1
       repeat (go_big_quiet_step (fail))
       repeat (go_big_quiet_step (fail))
       refine wpQuiet_nil ?_
       intro _ hw'
       obtain ⟨p, hw''⟩ := hw'
       subst hw''
       have opw := p.only
       generalize p.w = w5 at *
       have O5 := hq9 (O2.out.trans0 opw)
       clear opw fx0 fx1 fb0 fb1 fb2 fb3 fb4 fb5 fb6 fp1
       go_wp2
       go_ret2
       exact ⟨by rw [HSN2.out]; exact OverAns.no (by decide), O5.out⟩
     | true =>
       rw [hgd] at BX
       have HGD := hq9 hgd
       clear hgd
       cases my with
       | false =>
         have HSN2 := hq9 (HSL.out (show over1 A x = none by unfold over1; rw [if_neg (fun h => by rw [← HMY.out] at h; cases h.2.1)]))
         have x0 := BX.out.cell 0
         have x1 := BX.out.cell 1
         have b0 := BB.out.cell 0
         have b1 := BB.out.cell 1
         have b2 := BB.out.cell 2
         have b3 := BB.out.cell 3
         have b4 := BB.out.cell 4
         have b5 := BB.out.cell 5
         have b6 := BB.out.cell 6
         have p1 : w2.cell? ⟨B0.a, 1, none⟩ = some (.pointer (some ⟨B0.p, 0, none⟩)) := AW2.out.head.cell 1
         refine wp_region_later w2 (by kernel_rfl) (by kernel_rfl) ?_
         have fx0 := fun (p : Later w2) => Later.cell p x0
         have fx1 := fun (p : Later w2) => Later.cell p x1
         have fb0 := fun (p : Later w2) => Later.cell p b0
         have fb1 := fun (p : Later w2) => Later.cell p b1
         have fb2 := fun (p : Later w2) => Later.cell p b2
         have fb3 := fun (p : Later w2) => Later.cell p b3
         have fb4 := fun (p : Later w2) => Later.cell p b4
         have fb5 := fun (p : Later w2) => Later.cell p b5
         have fb6 := fun (p : Later w2) => Later.cell p b6
         have fp1 := fun (p : Later w2) => Later.cell p p1
         clear x0 x1 b0 b1 b2 b3 b4 b5 b6 p1
         repeat (go_big_quiet_step (fail))
         go_big_quiet_step (exact Calls.later (HMY0.out _))
         repeat (go_big_quiet_step (fail))
         refine wpQuiet_nil ?_
         intro _ hw'
         obtain ⟨p, hw''⟩ := hw'
         subst hw''
         have opw := p.only
         generalize p.w = w5 at *
         have O5 := hq9 (O2.out.trans0 opw)
         clear opw fx0 fx1 fb0 fb1 fb2 fb3 fb4 fb5 fb6 fp1
         go_wp2
         go_ret2
         exact ⟨by rw [HSN2.out]; exact OverAns.no (by decide), O5.out⟩
       | true =>
         by_cases hk1 : x.b.kind = 1 ∨ x.b.kind = 2
         ·rcases hk1 with hk | hk
          ·have g1 : (x.b.kind != 1) = false := by rw [hk]; rfl
           have g4 : (x.b.kind == 2) = false := by rw [hk]; rfl
           have g2 : (x.b.kind != 2) = true := by rw [hk]; rfl
           have HK := hq9 hk
           clear hk
           have x0 := BX.out.cell 0
           have x1 := BX.out.cell 1
           have b0 := BB.out.cell 0
           have b1 := BB.out.cell 1
           have b2 := BB.out.cell 2
           have b3 := BB.out.cell 3
           have b4 := BB.out.cell 4
           have b5 := BB.out.cell 5
           have b6 := BB.out.cell 6
           have p1 : w2.cell? ⟨B0.a, 1, none⟩ = some (.pointer (some ⟨B0.p, 0, none⟩)) := AW2.out.head.cell 1
           have MK0 := hq9 (fun w5 (o : Only [] w2 w5) => pool_Mark B0.p B0.ps A.pool x.line x.b.cls w5 (AW2.out.pool.only o (by simp) (by simp)) HG.out.ok (by have := HB.out.c0; have := HB.out.c3; omega))
           have FACT := hq9 (show ∀ w5, Only [] w2 w5 → w5.cell? ⟨wr.heap.size, 0, none⟩ = some (.int .i64 x.line) ∧ w5.cell? ⟨wr.heap.size + 1, 0, none⟩ = some (.int .i64 x.b.cls) ∧ w5.cell? ⟨wr.heap.size + 1, 1, none⟩ = some (.int .i64 x.b.kind) ∧ w5.cell? ⟨B0.a, 1, none⟩ = some (.pointer (some ⟨B0.p, 0, none⟩)) from fun w5 o => ⟨(BX.out.only o (by simp)).cell 0, (BB.out.only o (by simp)).cell 0, (BB.out.only o (by simp)).cell 1, (AW2.out.keep0 o).head.cell 1⟩)
           obtain ⟨ma, hma⟩ : ∃ y, y = markA A.pool x.line x.b.cls := ⟨_, rfl⟩
           rw [← hma] at MK0
           have HMA := hq9 hma
           clear hma
           have hw2 : Only [] w2 w2.drew := (Only.refl _ _).drew
           by_cases hm0 : ma = 0
           ·have g3 : (ma != 0) = false := by rw [hm0]; rfl
            have HM0 := hq9 hm0
            clear hm0
            refine wp_region_later_tail w2 27 (by kernel_rfl) (by kernel_rfl) ?_
            simp only [List.take_succ_cons, List.take_zero, List.drop_succ_cons, List.drop_zero]
            have fx0 := fun (p : Later w2) => Later.cell p x0
            have fx1 := fun (p : Later w2) => Later.cell p x1
            have fb0 := fun (p : Later w2) => Later.cell p b0
            have fb1 := fun (p : Later w2) => Later.cell p b1
            have fb2 := fun (p : Later w2) => Later.cell p b2
            have fb3 := fun (p : Later w2) => Later.cell p b3
            have fb4 := fun (p : Later w2) => Later.cell p b4
            have fb5 := fun (p : Later w2) => Later.cell p b5
            have fb6 := fun (p : Later w2) => Later.cell p b6
            have fp1 := fun (p : Later w2) => Later.cell p p1
            clear x0 x1 b0 b1 b2 b3 b4 b5 b6 p1
            repeat (go_big_quiet_step (fail))
            go_big_quiet_step (exact Calls.later (HMY0.out _))
            repeat (go_big_quiet_step (fail))
            refine wpQuiet_nil ?_
            intro _ hw'
            obtain ⟨p, hw''⟩ := hw'
            subst hw''
            have opw := p.only
            generalize p.w = w5 at *
            have OA := hq9 opw
            clear opw fx0 fx1 fb0 fb1 fb2 fb3 fb4 fb5 fb6 fp1
            go_wp2_with fail
            refine (MK0.out _ OA.out).mono ?_
            rintro r w6 ⟨rfl, pm, o6⟩
            have PM := hq9 pm
            have O6 := hq9 o6
            clear pm o6
            have AW6 := hq9 ((AW2.out.keep0 OA.out).mark O6.out PM.out)
            have BB6 := hq9 ((BB.out.only OA.out (by simp)).only O6.out (fun h => by have := HNW.out B0.ps (by simp [arFs]); simp at h; omega))
            have BX6 := hq9 ((BX.out.only OA.out (by simp)).only O6.out (fun h => by have := HNW.out B0.ps (by simp [arFs]); simp at h; omega))
            have ON6 := hq9 ((O2.out.trans0 OA.out).trans O6.out (fun b hb => .inr (HFR.out b (by simp at hb; subst hb; simp [arFs]))))
            have HS6 := hq9 (show wr.heap.size ≤ w6.heap.size from Nat.le_trans (Nat.le_trans OS2.out OA.out.size) O6.out.size)
            clear PM O6 MK0 FACT HMY0
            have b0 := BB6.out.cell 0
            have b2 := BB6.out.cell 2
            have b3 := BB6.out.cell 3
            have b5 := BB6.out.cell 5
            have x0 := BX6.out.cell 0
            have BK := hq9 (Blk.new w6 70 #[.string kb, .int .u64 x.b.id, .int .u64 x.b.ver, .int .i64 x.line, .int .i64 x.b.cls])
            have OK := (Only.refl [] w6).alloc (.cells #[.string kb, .int .u64 x.b.id, .int .u64 x.b.ver, .int .i64 x.line, .int .i64 x.b.cls] 70)
            have AW7 := hq9 (AW6.out.keep0 OK)
            have BB7 := hq9 (BB6.out.only OK (by simp))
            have ON7 := hq9 (ON6.out.trans0 OK)
            have HS7 := hq9 (Nat.le_trans HS6.out OK.size)
            clear OK BX6
            have d1 := BB7.out.cell 1
            have HO1 := hq9 (fun (hk : hasKey A.tab x.b.key = false) => show over1 A x = some ⟨markP A.pool x.line x.b.cls, ins (linkOf x) A.tab, A.line, max A.id x.b.id, max A.ver x.b.ver⟩ from by unfold over1; rw [if_pos ⟨HGD.out, HMY.out.symm, .inl HK.out, HMA.out.symm.trans HM0.out⟩, if_neg (by rw [HK.out]; decide), if_neg (by rw [hk]; decide)])
            have HO2 := hq9 (fun (hk : hasKey A.tab x.b.key = true) => show over1 A x = none from by unfold over1; rw [if_pos ⟨HGD.out, HMY.out.symm, .inl HK.out, HMA.out.symm.trans HM0.out⟩, if_neg (by rw [HK.out]; decide), if_pos hk])
            go_wp2_with fail
            generalize (w6.alloc _) = w7 at *
            clear d1 b0 b2 b3 b5 x0
            have h5 : w7.cell? ⟨B0.a, 5, none⟩ = some (.pointer (some ⟨B0.t, 0, none⟩)) := AW7.out.head.cell 5
            have k0 := BK.out.cell 0
            have k1 := BK.out.cell 1
            have k2 := BK.out.cell 2
            have k3 := BK.out.cell 3
            have k4 := BK.out.cell 4
            refine wp_region_later_tail w7 5 (by kernel_rfl) (by kernel_rfl) ?_
            simp only [List.take_succ_cons, List.take_zero, List.drop_succ_cons, List.drop_zero]
            have fh5 := fun (p : Later w7) => Later.cell p h5
            have fk0 := fun (p : Later w7) => Later.cell p k0
            have fk1 := fun (p : Later w7) => Later.cell p k1
            have fk2 := fun (p : Later w7) => Later.cell p k2
            have fk3 := fun (p : Later w7) => Later.cell p k3
            have fk4 := fun (p : Later w7) => Later.cell p k4
            clear h5 k0 k1 k2 k3 k4
            repeat (go_big_quiet_step (fail))
            repeat (go_big_quiet_step (fail))
            refine wpQuiet_nil ?_
            intro _ hw'
            obtain ⟨p, hw''⟩ := hw'
            subst hw''
            have opw := p.only
            clear fh5 fk0 fk1 fk2 fk3 fk4
            generalize p.w = w8 at *
            have AW8 := hq9 (AW7.out.keep0 opw)
            have BB8 := hq9 (BB7.out.only opw (by simp))
            have BK8 := hq9 (BK.out.only opw (by simp))
            have ON8 := hq9 (ON7.out.trans0 opw)
            clear opw AW7 BB7 BK ON7
            have hkl := HB.out.key
            have TS := hq9 (tab_Set B0.t B0.ts A.tab (linkOf x) w8 AW8.out.tab (show x.b.key.length ≤ maxLen by unfold maxLen; omega) (by have := HG.out.few; unfold maxLen; omega))
            rw [HLK.out, show (linkOf x).key = x.b.key from rfl] at TS
            obtain ⟨hk, hhk⟩ : ∃ b, b = hasKey A.tab x.b.key := ⟨_, rfl⟩
            rw [← hhk] at TS
            have HHK := hq9 hhk
            clear hhk hkl
            have FRT := hq9 (show ∀ b ∈ B0.t :: B0.ts, b < wr.heap.size ∧ w.heap.size ≤ b from fun b hb => by
             have hm : b ∈ (arFs { B0 with ov := us }).flatten := by
              unfold arFs
              simp only [List.flatten_cons, List.mem_append]
              exact .inr (.inr (.inr (.inr (.inr (.inl hb)))))
             exact ⟨HNW.out b hm, HFR.out b (by rw [List.flatten_append]; exact List.mem_append_left _ hm)⟩)
            have FRO := hq9 (show ∀ b ∈ B0.o :: ownsOf us, b < wr.heap.size ∧ w.heap.size ≤ b from fun b hb => by
             have hm : b ∈ (arFs { B0 with ov := us }).flatten := by
              unfold arFs
              simp only [List.flatten_cons, List.mem_append]
              exact .inr (.inr (.inr (.inr (.inr (.inr (.inl hb))))))
             exact ⟨HNW.out b hm, HFR.out b (by rw [List.flatten_append]; exact List.mem_append_left _ hm)⟩)
            go_wp2_with fail
            refine TS.out.mono ?_
            rintro r w9 ⟨rfl, t9, o9⟩
            have AW9 := hq9 (AW8.out.set o9 t9)
            have BB9 := hq9 (BB8.out.only o9 (fun h => by have := (FRT.out _ h).1; omega))
            have BK9 := hq9 (BK8.out.only o9 (fun h => by have := (FRT.out _ h).1; have := HS6.out; omega))
            have ON9 := hq9 (ON8.out.trans o9 (fun b hb => .inr (FRT.out b hb).2))
            clear t9 o9 TS AW8 BB8 BK8 ON8
            cases hk with
            | true =>
              have HSN2 := hq9 (HSL.out (HO2.out HHK.out.symm))
              go_wp2
              go_ret2
              exact ⟨by rw [HSN2.out]; exact OverAns.no (by decide), ON9.out⟩
            | false =>
              have HO3 := HO1.out HHK.out.symm
              clear HO1
              have HO1 := hq9 HO3
              clear HO3
              go_wp2_with fail
              have h6 : w9.cell? ⟨B0.a, 6, none⟩ = some (.pointer (some ⟨B0.o, 0, none⟩)) := AW9.out.head.cell 6
              have k0 := BK9.out.cell 0
              have k1 := BK9.out.cell 1
              have k2 := BK9.out.cell 2
              have k3 := BK9.out.cell 3
              have k4 := BK9.out.cell 4
              refine wp_region_later_tail w9 5 (by kernel_rfl) (by kernel_rfl) ?_
              simp only [List.take_succ_cons, List.take_zero, List.drop_succ_cons, List.drop_zero]
              have fh6 := fun (p : Later w9) => Later.cell p h6
              have fk0 := fun (p : Later w9) => Later.cell p k0
              have fk1 := fun (p : Later w9) => Later.cell p k1
              have fk2 := fun (p : Later w9) => Later.cell p k2
              have fk3 := fun (p : Later w9) => Later.cell p k3
              have fk4 := fun (p : Later w9) => Later.cell p k4
              clear h6 k0 k1 k2 k3 k4
              repeat (go_big_quiet_step (fail))
              repeat (go_big_quiet_step (fail))
              refine wpQuiet_nil ?_
              intro _ hw'
              obtain ⟨p, hw''⟩ := hw'
              subst hw''
              have opw := p.only
              clear fh6 fk0 fk1 fk2 fk3 fk4
              generalize p.w = w10 at *
              have AW10 := hq9 (AW9.out.keep0 opw)
              have BB10 := hq9 (BB9.out.only opw (by simp))
              have ON10 := hq9 (ON9.out.trans0 opw)
              clear opw AW9 BB9 BK9 ON9
              have OS := hq9 (order_Set B0.o us Ls (linkOf x) w10 AW10.out.ord (fun L hL => ⟨(HLS.out L hL).1, by have := (HLS.out L hL).2; omega⟩) (show x.b.key.length ≤ maxLen by have := HB.out.key; unfold maxLen; omega))
              rw [HLK.out, show (linkOf x).key = x.b.key from rfl] at OS
              go_wp2_with fail
              refine OS.out.mono ?_
              rintro r wa ⟨bq, vs2, rfl, l11, o11, n11⟩
              have AWa := hq9 (show ArW wa gd { B0 with ov := vs2 } (ovS n e N ⟨markP A.pool x.line x.b.cls, ins (linkOf x) A.tab, A.line, A.id, A.ver⟩ (setLev (lev (crc x.b.key)) (linkOf x) Ls) []) u14 A.line from AW10.out.lev o11 l11 n11)
              have BBa := hq9 (BB10.out.only o11 (fun h => by have := (FRO.out _ h).1; omega))
              have ONa := hq9 (ON10.out.trans o11 (fun b hb => .inr (FRO.out b hb).2))
              have HS10 := ON10.out.size
              have FRZ := hq9 (fresh_lev (vs := vs2) HFR.out (fun c hc => (n11 c hc).imp id fun h => Nat.le_trans HS10 h))
              have LSZ := hq9 (setLev_bd (n := lev (crc x.b.key)) (x := linkOf x) HLS.out)
              clear l11 o11 n11 OS AW10 BB10 ON10 HS10
              have h8 : wa.cell? ⟨B0.a, 8, none⟩ = some (.int .u64 A.id) := AWa.out.head.cell 8
              have b2 := BBa.out.cell 2
              go_wp2_with fail
              refine wp_region_later_tail wa 10 (by kernel_rfl) (by kernel_rfl) ?_
              simp only [List.take_succ_cons, List.take_zero, List.drop_succ_cons, List.drop_zero]
              have fh8 := fun (p : Later wa) => Later.cell p h8
              have fb2 := fun (p : Later wa) => Later.cell p b2
              clear h8 b2
              repeat (go_big_quiet_step (fail))
              go_big_quiet_step (exact Calls.later_same (uint64_Load _ _ _ _ (fh8 _)))
              repeat (go_big_quiet_step (fail))
              refine wpQuiet_nil ?_
              intro _ hw'
              obtain ⟨p, hw''⟩ := hw'
              subst hw''
              have opw := p.only
              clear fh8 fb2
              generalize p.w = wbx at *
              have AWbx := hq9 (AWa.out.keep0 opw)
              have ONbx := hq9 (ONa.out.trans0 opw)
              have BBbx := hq9 (BBa.out.only opw (by simp))
              clear opw
              have hh := AWbx.out.head.cell 8
              have hf := AWbx.out.head.frozen 8
              have SC := hq9 (fun y => uint64_Store B0.a 8 _ y wbx hh hf)
              clear hh hf
              go_wp2_with fail
              refine (SC.out _).mono ?_
              rintro r w9z ⟨rfl, hw9⟩
              have hb9 := AWbx.out.head.set 8 (.int .u64 ((max A.id x.b.id : Nat) : Int))
              have ho9 := (Only.refl [B0.a] wbx).setCell (p := ⟨B0.a, 8, none⟩) (.inl (by simp)) (.int .u64 ((max A.id x.b.id : Nat) : Int))
              have hmx : max (A.id : Int) (x.b.id : Int) = ((max A.id x.b.id : Nat) : Int) := by omega
              rw [hmx] at hw9
              rw [hw9] at hb9 ho9
              clear hw9 hmx SC
              have AWb := hq9 (AWbx.out.hd (i := (max A.id x.b.id)) (j := A.ver) ho9 hb9)
              have ONb := hq9 (ONbx.out.trans ho9 (fun b hb => .inr (FRZ.out b (by simp at hb; subst hb; simp [arFs]))))
              have BBb := hq9 (BBbx.out.only ho9 (fun h => by have := HNW.out B0.a (by simp [arFs]); simp at h; omega))
              clear hb9 ho9 AWbx ONbx BBbx
              generalize w9z = wb at *
              have h9 : wb.cell? ⟨B0.a, 9, none⟩ = some (.int .u64 A.ver) := AWb.out.head.cell 9
              have b3 := BBb.out.cell 3
              go_wp2_with fail
              refine wp_region_later_tail wb 10 (by kernel_rfl) (by kernel_rfl) ?_
              simp only [List.take_succ_cons, List.take_zero, List.drop_succ_cons, List.drop_zero]
              have fh9 := fun (p : Later wb) => Later.cell p h9
              have fb3 := fun (p : Later wb) => Later.cell p b3
              clear h9 b3
              repeat (go_big_quiet_step (fail))
              go_big_quiet_step (exact Calls.later_same (uint64_Load _ _ _ _ (fh9 _)))
              repeat (go_big_quiet_step (fail))
              refine wpQuiet_nil ?_
              intro _ hw'
              obtain ⟨p, hw''⟩ := hw'
              subst hw''
              have opw := p.only
              clear fh9 fb3
              generalize p.w = wcx at *
              have AWcx := hq9 (AWb.out.keep0 opw)
              have ONcx := hq9 (ONb.out.trans0 opw)
              have BBcx := hq9 (BBb.out.only opw (by simp))
              clear opw
              have hh := AWcx.out.head.cell 9
              have hf := AWcx.out.head.frozen 9
              have SC := hq9 (fun y => uint64_Store B0.a 9 _ y wcx hh hf)
              clear hh hf
              go_wp2_with fail
              refine (SC.out _).mono ?_
              rintro r w9z ⟨rfl, hw9⟩
              have hb9 := AWcx.out.head.set 9 (.int .u64 ((max A.ver x.b.ver : Nat) : Int))
              have ho9 := (Only.refl [B0.a] wcx).setCell (p := ⟨B0.a, 9, none⟩) (.inl (by simp)) (.int .u64 ((max A.ver x.b.ver : Nat) : Int))
              have hmx : max (A.ver : Int) (x.b.ver : Int) = ((max A.ver x.b.ver : Nat) : Int) := by omega
              rw [hmx] at hw9
              rw [hw9] at hb9 ho9
              clear hw9 hmx SC
              have AWc := hq9 (AWcx.out.hd (i := (max A.id x.b.id)) (j := (max A.ver x.b.ver)) ho9 hb9)
              have ONc := hq9 (ONcx.out.trans ho9 (fun b hb => .inr (FRZ.out b (by simp at hb; subst hb; simp [arFs]))))
              have BBc := hq9 (BBcx.out.only ho9 (fun h => by have := HNW.out B0.a (by simp [arFs]); simp at h; omega))
              clear hb9 ho9 AWcx ONcx BBcx
              generalize w9z = wc at *
              go_wp2
              go_roundw
              case rel => exact ⟨i + 1, _, _, _, by go_num, by omega, HSN.out.trans HO1.out, over1_good HG.out HB.out HO1.out, AWc.out, LSZ.out, FRZ.out, ONc.out⟩
              case measure => simp only [intOf]; omega
           ·have g3 : (ma != 0) = true := by simpa using hm0
            have HSN2 := hq9 (HSL.out (show over1 A x = none by unfold over1; rw [if_neg (fun h => by exact hm0 (HMA.out.trans h.2.2.2))]))
            refine wp_region_later_tail w2 27 (by kernel_rfl) (by kernel_rfl) ?_
            simp only [List.take_succ_cons, List.take_zero, List.drop_succ_cons, List.drop_zero]
            have fx0 := fun (p : Later w2) => Later.cell p x0
            have fx1 := fun (p : Later w2) => Later.cell p x1
            have fb0 := fun (p : Later w2) => Later.cell p b0
            have fb1 := fun (p : Later w2) => Later.cell p b1
            have fb2 := fun (p : Later w2) => Later.cell p b2
            have fb3 := fun (p : Later w2) => Later.cell p b3
            have fb4 := fun (p : Later w2) => Later.cell p b4
            have fb5 := fun (p : Later w2) => Later.cell p b5
            have fb6 := fun (p : Later w2) => Later.cell p b6
            have fp1 := fun (p : Later w2) => Later.cell p p1
            clear x0 x1 b0 b1 b2 b3 b4 b5 b6 p1
            repeat (go_big_quiet_step (fail))
            go_big_quiet_step (exact Calls.later (HMY0.out _))
            repeat (go_big_quiet_step (fail))
            refine wpQuiet_nil ?_
            intro _ hw'
            obtain ⟨p, hw''⟩ := hw'
            subst hw''
            have opw := p.only
            generalize p.w = w5 at *
            have OA := hq9 opw
            clear opw fx0 fx1 fb0 fb1 fb2 fb3 fb4 fb5 fb6 fp1
            go_wp2_with fail
            refine (MK0.out _ OA.out).mono ?_
            rintro r w6 ⟨rfl, pm, o6⟩
            have PM := hq9 pm
            have O6 := hq9 o6
            clear pm o6
            go_wp2
            go_ret2
            exact ⟨by rw [HSN2.out]; exact OverAns.no (by decide), (O2.out.trans0 OA.out).trans O6.out (fun b hb => .inr (HFR.out b (by simp at hb; subst hb; simp [arFs])))⟩
          ·have g1 : (x.b.kind != 1) = true := by rw [hk]; rfl
           have g4 : (x.b.kind == 2) = true := by rw [hk]; rfl
           have g2 : (x.b.kind != 2) = false := by rw [hk]; rfl
           have HK := hq9 hk
           clear hk
           have x0 := BX.out.cell 0
           have x1 := BX.out.cell 1
           have b0 := BB.out.cell 0
           have b1 := BB.out.cell 1
           have b2 := BB.out.cell 2
           have b3 := BB.out.cell 3
           have b4 := BB.out.cell 4
           have b5 := BB.out.cell 5
           have b6 := BB.out.cell 6
           have p1 : w2.cell? ⟨B0.a, 1, none⟩ = some (.pointer (some ⟨B0.p, 0, none⟩)) := AW2.out.head.cell 1
           have MK0 := hq9 (fun w5 (o : Only [] w2 w5) => pool_Mark B0.p B0.ps A.pool x.line x.b.cls w5 (AW2.out.pool.only o (by simp) (by simp)) HG.out.ok (by have := HB.out.c0; have := HB.out.c3; omega))
           have FACT := hq9 (show ∀ w5, Only [] w2 w5 → w5.cell? ⟨wr.heap.size, 0, none⟩ = some (.int .i64 x.line) ∧ w5.cell? ⟨wr.heap.size + 1, 0, none⟩ = some (.int .i64 x.b.cls) ∧ w5.cell? ⟨wr.heap.size + 1, 1, none⟩ = some (.int .i64 x.b.kind) ∧ w5.cell? ⟨B0.a, 1, none⟩ = some (.pointer (some ⟨B0.p, 0, none⟩)) from fun w5 o => ⟨(BX.out.only o (by simp)).cell 0, (BB.out.only o (by simp)).cell 0, (BB.out.only o (by simp)).cell 1, (AW2.out.keep0 o).head.cell 1⟩)
           obtain ⟨ma, hma⟩ : ∃ y, y = markA A.pool x.line x.b.cls := ⟨_, rfl⟩
           rw [← hma] at MK0
           have HMA := hq9 hma
           clear hma
           have hw2 : Only [] w2 w2.drew := (Only.refl _ _).drew
           by_cases hm0 : ma = 0
           ·have g3 : (ma != 0) = false := by rw [hm0]; rfl
            have HM0 := hq9 hm0
            clear hm0
            refine wp_region_later_tail w2 27 (by kernel_rfl) (by kernel_rfl) ?_
            simp only [List.take_succ_cons, List.take_zero, List.drop_succ_cons, List.drop_zero]
            have fx0 := fun (p : Later w2) => Later.cell p x0
            have fx1 := fun (p : Later w2) => Later.cell p x1
            have fb0 := fun (p : Later w2) => Later.cell p b0
            have fb1 := fun (p : Later w2) => Later.cell p b1
            have fb2 := fun (p : Later w2) => Later.cell p b2
            have fb3 := fun (p : Later w2) => Later.cell p b3
            have fb4 := fun (p : Later w2) => Later.cell p b4
            have fb5 := fun (p : Later w2) => Later.cell p b5
            have fb6 := fun (p : Later w2) => Later.cell p b6
            have fp1 := fun (p : Later w2) => Later.cell p p1
            clear x0 x1 b0 b1 b2 b3 b4 b5 b6 p1
            repeat (go_big_quiet_step (fail))
            go_big_quiet_step (exact Calls.later (HMY0.out _))
            repeat (go_big_quiet_step (fail))
            refine wpQuiet_nil ?_
            intro _ hw'
            obtain ⟨p, hw''⟩ := hw'
            subst hw''
            have opw := p.only
            generalize p.w = w5 at *
            have OA := hq9 opw
            clear opw fx0 fx1 fb0 fb1 fb2 fb3 fb4 fb5 fb6 fp1
            go_wp2_with fail
            refine (MK0.out _ OA.out).mono ?_
            rintro r w6 ⟨rfl, pm, o6⟩
            have PM := hq9 pm
            have O6 := hq9 o6
            clear pm o6
            have AW6 := hq9 ((AW2.out.keep0 OA.out).mark O6.out PM.out)
            have BB6 := hq9 ((BB.out.only OA.out (by simp)).only O6.out (fun h => by have := HNW.out B0.ps (by simp [arFs]); simp at h; omega))
            have BX6 := hq9 ((BX.out.only OA.out (by simp)).only O6.out (fun h => by have := HNW.out B0.ps (by simp [arFs]); simp at h; omega))
            have ON6 := hq9 ((O2.out.trans0 OA.out).trans O6.out (fun b hb => .inr (HFR.out b (by simp at hb; subst hb; simp [arFs]))))
            have HS6 := hq9 (show wr.heap.size ≤ w6.heap.size from Nat.le_trans (Nat.le_trans OS2.out OA.out.size) O6.out.size)
            clear PM O6 MK0 FACT HMY0
            have b0 := BB6.out.cell 0
            have b2 := BB6.out.cell 2
            have b3 := BB6.out.cell 3
            have b5 := BB6.out.cell 5
            have x0 := BX6.out.cell 0
            have BK := hq9 (Blk.new w6 70 #[.string kb, .int .u64 x.b.id, .int .u64 x.b.ver, .int .i64 x.line, .int .i64 x.b.cls])
            have OK := (Only.refl [] w6).alloc (.cells #[.string kb, .int .u64 x.b.id, .int .u64 x.b.ver, .int .i64 x.line, .int .i64 x.b.cls] 70)
            have AW7 := hq9 (AW6.out.keep0 OK)
            have BB7 := hq9 (BB6.out.only OK (by simp))
            have ON7 := hq9 (ON6.out.trans0 OK)
            have HS7 := hq9 (Nat.le_trans HS6.out OK.size)
            clear OK BX6
            have d1 := BB7.out.cell 1
            have HO1 := hq9 (show over1 A x = some ⟨markP A.pool x.line x.b.cls, A.tab, A.line ++ [linkOf x], max A.id x.b.id, max A.ver x.b.ver⟩ from by unfold over1; rw [if_pos ⟨HGD.out, HMY.out.symm, .inr HK.out, HMA.out.symm.trans HM0.out⟩, if_pos HK.out])
            have k0 := BK.out.cell 0
            have k1 := BK.out.cell 1
            have k2 := BK.out.cell 2
            have k3 := BK.out.cell 3
            have k4 := BK.out.cell 4
            have OK2 := (Only.refl [] (w6.alloc (.cells #[.string kb, .int .u64 x.b.id, .int .u64 x.b.ver, .int .i64 x.line, .int .i64 x.b.cls] 70))).alloc (.cells #[.string kb, .int .u64 x.b.id, .int .u64 x.b.ver, .int .i64 x.line, .int .i64 x.b.cls] 70)
            have AW8 := hq9 (AW7.out.keep0 OK2)
            have BB8 := hq9 (BB7.out.only OK2 (by simp))
            have ON8 := hq9 (ON7.out.trans0 OK2)
            have HS8 := hq9 (Nat.le_trans HS7.out OK2.size)
            clear OK2
            obtain ⟨v9, wa, hr9, r9, o9, l9⟩ := push_link (w := ((w6.alloc (.cells #[.string kb, .int .u64 x.b.id, .int .u64 x.b.ver, .int .i64 x.line, .int .i64 x.b.cls] 70)).alloc (.cells #[.string kb, .int .u64 x.b.id, .int .u64 x.b.ver, .int .i64 x.line, .int .i64 x.b.cls] 70))) (L := A.line) AW8.out.row (by have := HG.out.fewq; omega) (A := some ⟨w6.heap.size + 1, 0, none⟩) (x := linkOf x) (by rw [HLC.out]; exact Sl.of_blk (Blk.new2 w6 _ 70 #[.string kb, .int .u64 x.b.id, .int .u64 x.b.ver, .int .i64 x.line, .int .i64 x.b.cls]) 0 rfl (by simp))
            have HL9 := hq9 (show ∀ b, v9.ownBlock = some b → u14.ownBlock = some b ∨ ((w6.alloc (.cells #[.string kb, .int .u64 x.b.id, .int .u64 x.b.ver, .int .i64 x.line, .int .i64 x.b.cls] 70)).alloc (.cells #[.string kb, .int .u64 x.b.id, .int .u64 x.b.ver, .int .i64 x.line, .int .i64 x.b.cls] 70)).heap.size ≤ b from fun b hb => by
             rcases l9 with h | h
             ·exact .inl (by rw [← h]; exact hb)
             ·rw [h] at hb
              exact .inr (Nat.le_of_eq (Option.some.inj hb)))
            have AWa := hq9 (AW8.out.grow (Q2 := A.line ++ [linkOf x]) o9 r9 HL9.out)
            have BBa := hq9 (BB8.out.only o9 (fun h => by have := AW.out.row.lt _ (own_mem.1 h); omega))
            have ONa := hq9 (ON8.out.trans o9 (fun b hb => .inr (HFR.out b (by rw [List.flatten_append]; exact List.mem_append_right _ (by simpa using hb)))))
            have FRZ := hq9 (fresh_row (G := v9.ownBlock.toList) HFR.out (fun c hc => by
             rcases HL9.out c (own_mem.1 hc) with h | h
             ·exact .inl (own_mem.2 h)
             ·have := HS8.out; have := HWR.out; exact .inr (by omega)))
            have LSZ := hq9 (show ∀ L ∈ Ls, Rising L ∧ L.length ≤ i + 1 from fun L hL => ⟨(HLS.out L hL).1, by have := (HLS.out L hL).2; omega⟩)
            clear r9 o9 l9 AW8 BB8 ON8 HL9
            go_wp2_with (at_builtin; refine wpList_append_run _ rfl (.tmp 102) (.tmp 104) 216 rfl _ _ rfl rfl _ _ hr9 ?_)
            clear hr9 d1 k0 k1 k2 k3 k4 b0 b2 b3 b5 x0 AW7 BB7 ON7 BK
            have h8 : wa.cell? ⟨B0.a, 8, none⟩ = some (.int .u64 A.id) := AWa.out.head.cell 8
            have b2 := BBa.out.cell 2
            go_wp2_with fail
            refine wp_region_later_tail wa 10 (by kernel_rfl) (by kernel_rfl) ?_
            simp only [List.take_succ_cons, List.take_zero, List.drop_succ_cons, List.drop_zero]
            have fh8 := fun (p : Later wa) => Later.cell p h8
            have fb2 := fun (p : Later wa) => Later.cell p b2
            clear h8 b2
            repeat (go_big_quiet_step (fail))
            go_big_quiet_step (exact Calls.later_same (uint64_Load _ _ _ _ (fh8 _)))
            repeat (go_big_quiet_step (fail))
            refine wpQuiet_nil ?_
            intro _ hw'
            obtain ⟨p, hw''⟩ := hw'
            subst hw''
            have opw := p.only
            clear fh8 fb2
            generalize p.w = wbx at *
            have AWbx := hq9 (AWa.out.keep0 opw)
            have ONbx := hq9 (ONa.out.trans0 opw)
            have BBbx := hq9 (BBa.out.only opw (by simp))
            clear opw
            have hh := AWbx.out.head.cell 8
            have hf := AWbx.out.head.frozen 8
            have SC := hq9 (fun y => uint64_Store B0.a 8 _ y wbx hh hf)
            clear hh hf
            go_wp2_with fail
            refine (SC.out _).mono ?_
            rintro r w9z ⟨rfl, hw9⟩
            have hb9 := AWbx.out.head.set 8 (.int .u64 ((max A.id x.b.id : Nat) : Int))
            have ho9 := (Only.refl [B0.a] wbx).setCell (p := ⟨B0.a, 8, none⟩) (.inl (by simp)) (.int .u64 ((max A.id x.b.id : Nat) : Int))
            have hmx : max (A.id : Int) (x.b.id : Int) = ((max A.id x.b.id : Nat) : Int) := by omega
            rw [hmx] at hw9
            rw [hw9] at hb9 ho9
            clear hw9 hmx SC
            have AWb := hq9 (AWbx.out.hd (i := (max A.id x.b.id)) (j := A.ver) ho9 hb9)
            have ONb := hq9 (ONbx.out.trans ho9 (fun b hb => .inr (FRZ.out b (by simp at hb; subst hb; simp [arFs]))))
            have BBb := hq9 (BBbx.out.only ho9 (fun h => by have := HNW.out B0.a (by simp [arFs]); simp at h; omega))
            clear hb9 ho9 AWbx ONbx BBbx
            generalize w9z = wb at *
            have h9 : wb.cell? ⟨B0.a, 9, none⟩ = some (.int .u64 A.ver) := AWb.out.head.cell 9
            have b3 := BBb.out.cell 3
            go_wp2_with fail
            refine wp_region_later_tail wb 10 (by kernel_rfl) (by kernel_rfl) ?_
            simp only [List.take_succ_cons, List.take_zero, List.drop_succ_cons, List.drop_zero]
            have fh9 := fun (p : Later wb) => Later.cell p h9
            have fb3 := fun (p : Later wb) => Later.cell p b3
            clear h9 b3
            repeat (go_big_quiet_step (fail))
            go_big_quiet_step (exact Calls.later_same (uint64_Load _ _ _ _ (fh9 _)))
            repeat (go_big_quiet_step (fail))
            refine wpQuiet_nil ?_
            intro _ hw'
            obtain ⟨p, hw''⟩ := hw'
            subst hw''
            have opw := p.only
            clear fh9 fb3
            generalize p.w = wcx at *
            have AWcx := hq9 (AWb.out.keep0 opw)
            have ONcx := hq9 (ONb.out.trans0 opw)
            have BBcx := hq9 (BBb.out.only opw (by simp))
            clear opw
            have hh := AWcx.out.head.cell 9
            have hf := AWcx.out.head.frozen 9
            have SC := hq9 (fun y => uint64_Store B0.a 9 _ y wcx hh hf)
            clear hh hf
            go_wp2_with fail
            refine (SC.out _).mono ?_
            rintro r w9z ⟨rfl, hw9⟩
            have hb9 := AWcx.out.head.set 9 (.int .u64 ((max A.ver x.b.ver : Nat) : Int))
            have ho9 := (Only.refl [B0.a] wcx).setCell (p := ⟨B0.a, 9, none⟩) (.inl (by simp)) (.int .u64 ((max A.ver x.b.ver : Nat) : Int))
            have hmx : max (A.ver : Int) (x.b.ver : Int) = ((max A.ver x.b.ver : Nat) : Int) := by omega
            rw [hmx] at hw9
            rw [hw9] at hb9 ho9
            clear hw9 hmx SC
            have AWc := hq9 (AWcx.out.hd (i := (max A.id x.b.id)) (j := (max A.ver x.b.ver)) ho9 hb9)
            have ONc := hq9 (ONcx.out.trans ho9 (fun b hb => .inr (FRZ.out b (by simp at hb; subst hb; simp [arFs]))))
            have BBc := hq9 (BBcx.out.only ho9 (fun h => by have := HNW.out B0.a (by simp [arFs]); simp at h; omega))
            clear hb9 ho9 AWcx ONcx BBcx
            generalize w9z = wc at *
            go_wp2
            go_roundw
            case rel => exact ⟨i + 1, _, _, _, by go_num, by omega, HSN.out.trans HO1.out, over1_good HG.out HB.out HO1.out, AWc.out, LSZ.out, FRZ.out, ONc.out⟩
            case measure => simp only [intOf]; omega
           ·have g3 : (ma != 0) = true := by simpa using hm0
            have HSN2 := hq9 (HSL.out (show over1 A x = none by unfold over1; rw [if_neg (fun h => by exact hm0 (HMA.out.trans h.2.2.2))]))
            refine wp_region_later_tail w2 27 (by kernel_rfl) (by kernel_rfl) ?_
            simp only [List.take_succ_cons, List.take_zero, List.drop_succ_cons, List.drop_zero]
            have fx0 := fun (p : Later w2) => Later.cell p x0
            have fx1 := fun (p : Later w2) => Later.cell p x1
            have fb0 := fun (p : Later w2) => Later.cell p b0
            have fb1 := fun (p : Later w2) => Later.cell p b1
            have fb2 := fun (p : Later w2) => Later.cell p b2
            have fb3 := fun (p : Later w2) => Later.cell p b3
            have fb4 := fun (p : Later w2) => Later.cell p b4
            have fb5 := fun (p : Later w2) => Later.cell p b5
            have fb6 := fun (p : Later w2) => Later.cell p b6
            have fp1 := fun (p : Later w2) => Later.cell p p1
            clear x0 x1 b0 b1 b2 b3 b4 b5 b6 p1
            repeat (go_big_quiet_step (fail))
            go_big_quiet_step (exact Calls.later (HMY0.out _))
            repeat (go_big_quiet_step (fail))
            refine wpQuiet_nil ?_
            intro _ hw'
            obtain ⟨p, hw''⟩ := hw'
            subst hw''
            have opw := p.only
            generalize p.w = w5 at *
            have OA := hq9 opw
            clear opw fx0 fx1 fb0 fb1 fb2 fb3 fb4 fb5 fb6 fp1
            go_wp2_with fail
            refine (MK0.out _ OA.out).mono ?_
            rintro r w6 ⟨rfl, pm, o6⟩
            have PM := hq9 pm
            have O6 := hq9 o6
            clear pm o6
            go_wp2
            go_ret2
            exact ⟨by rw [HSN2.out]; exact OverAns.no (by decide), (O2.out.trans0 OA.out).trans O6.out (fun b hb => .inr (HFR.out b (by simp at hb; subst hb; simp [arFs])))⟩
         ·have g1 : (x.b.kind != 1) = true := by simpa using fun h => hk1 (.inl h)
          have g2 : (x.b.kind != 2) = true := by simpa using fun h => hk1 (.inr h)
          have HSN2 := hq9 (HSL.out (show over1 A x = none by unfold over1; rw [if_neg (fun h => by exact hk1 h.2.2.1)]))
          have x0 := BX.out.cell 0
          have x1 := BX.out.cell 1
          have b0 := BB.out.cell 0
          have b1 := BB.out.cell 1
          have b2 := BB.out.cell 2
          have b3 := BB.out.cell 3
          have b4 := BB.out.cell 4
          have b5 := BB.out.cell 5
          have b6 := BB.out.cell 6
          have p1 : w2.cell? ⟨B0.a, 1, none⟩ = some (.pointer (some ⟨B0.p, 0, none⟩)) := AW2.out.head.cell 1
          refine wp_region_later w2 (by kernel_rfl) (by kernel_rfl) ?_
          have fx0 := fun (p : Later w2) => Later.cell p x0
          have fx1 := fun (p : Later w2) => Later.cell p x1
          have fb0 := fun (p : Later w2) => Later.cell p b0
          have fb1 := fun (p : Later w2) => Later.cell p b1
          have fb2 := fun (p : Later w2) => Later.cell p b2
          have fb3 := fun (p : Later w2) => Later.cell p b3
          have fb4 := fun (p : Later w2) => Later.cell p b4
          have fb5 := fun (p : Later w2) => Later.cell p b5
          have fb6 := fun (p : Later w2) => Later.cell p b6
          have fp1 := fun (p : Later w2) => Later.cell p p1
          clear x0 x1 b0 b1 b2 b3 b4 b5 b6 p1
          repeat (go_big_quiet_step (fail))
          go_big_quiet_step (exact Calls.later (HMY0.out _))
          repeat (go_big_quiet_step (fail))
          refine wpQuiet_nil ?_
          intro _ hw'
          obtain ⟨p, hw''⟩ := hw'
          subst hw''
          have opw := p.only
          generalize p.w = w5 at *
          have O5 := hq9 (O2.out.trans0 opw)
          clear opw fx0 fx1 fb0 fb1 fb2 fb3 fb4 fb5 fb6 fp1
          go_wp2
          go_ret2
          exact ⟨by rw [HSN2.out]; exact OverAns.no (by decide), O5.out⟩
    ·have q1 : decide ((i : Int) < (m : Int)) = false := by go_num
     have him : i = m := by omega
     have HOF := hq9 (show overOf srtL N F = some { A with line := srtL A.line } from by
      unfold overOf
      rw [if_neg (by rw [HALL.out]; decide), show overAll (emptyA N) F = some A from by have := HOV.out; rwa [him, HMF.out, List.take_length] at this]
      rfl)
     have HA1 := hq9 (show A.line.length ≤ 1000 by have := HG.out.fewq; omega)
     clear HOV hin him
     rcases AW.out.row.row.2 with ⟨hv, h0⟩ | ⟨gq, cq, cur, hv, hgb⟩
     ·subst hv
      have HA0 := hq9 (show A.line = [] from by
       cases hA : A.line with
       | nil => rfl
       | cons y ys => rw [hA] at h0; simp at h0)
      clear h0
      go_wp2_with fail
      refine (sort_waits_none _ _).mono ?_
      rintro r ws ⟨rfl, rfl⟩
      go_wp2_with fail
      refine wp_loop_rounds 1 ?_
      rw [rounds_succ]
      go_wp2
      go_ret2
      refine ⟨?_, ON.out⟩
      rw [HOF.out]
      have haw := AW.out.ar
      exact ⟨{ B0 with ov := us }, Ls, rfl, (by rw [HA0.out, srtL_nil]; exact haw), fun b hb => HFR.out b (by rw [List.flatten_append]; exact List.mem_append_left _ hb)⟩
     ·subst hv
      clear hgb cur
      obtain ⟨q, hq⟩ : ∃ q, q = (A.line.map linkC).length := ⟨_, rfl⟩
      rw [← hq] at AW HFR ⊢
      have HQ0 := hq9 (show q = A.line.length by rw [hq, List.length_map])
      clear hq
      have hrow := AW.out.row
      have SW := hq9 (sort_waits gq q cq A.line wr hrow (by have := HA1.out; omega))
      go_wp2_with fail
      refine SW.out.mono ?_
      rintro r ws ⟨rfl, rs, os⟩
      obtain ⟨Q, hQ⟩ : ∃ Q, Q = srtL A.line := ⟨_, rfl⟩
      rw [← hQ] at rs
      have AWS := hq9 (show ArW ws gd { B0 with ov := us, lv := B0.lv } (ovS n e N A Ls (Q.take 0)) (.slice (some ⟨gq, 0, none⟩) q cq) Q from AW.out.grow (Q2 := Q) (show Only [gq] wr ws from os) rs (fun b hb => .inl hb))
      have HQ := hq9 hQ
      have HQL := hq9 (show q = Q.length by rw [hQ, srtL_len]; exact HQ0.out)
      have HQS := hq9 (show q ≤ 1000 by have := HQ0.out; have := HA1.out; omega)
      have FRS := hq9 (show ∀ b ∈ (arFs { B0 with ov := us, lv := B0.lv } ++ [[gq]]).flatten, w.heap.size ≤ b from HFR.out)
      have ONS := hq9 (ON.out.trans os (fun b hb => .inr (HFR.out b (by rw [List.flatten_append]; exact List.mem_append_right _ (by simpa [Value.ownBlock] using hb)))))
      clear hQ rs os SW hrow AW HFR ON
      go_wp2_with fail
      go_loopw [145] (fun vi wr => ∃ (i : Nat) (lv : Value), vi = .int .i64 i ∧ i ≤ q ∧ ArW wr gd { B0 with ov := us, lv := lv } (ovS n e N A Ls (Q.take i)) (.slice (some ⟨gq, 0, none⟩) q cq) Q ∧ (∀ b ∈ (arFs { B0 with ov := us, lv := lv } ++ [[gq]]).flatten, w.heap.size ≤ b) ∧ Only [] w wr) (fun vi _ => q - (intOf vi).toNat)
      case atStart => exact ⟨0, B0.lv, rfl, by omega, AWS.out, FRS.out, ONS.out⟩
      case round =>
       clear AWS FRS ONS
       obtain ⟨i, lv, rfl, hin, haw, hfr, ho⟩ := hrel
       have AW := hq9 haw
       have HFR := hq9 hfr
       have ON := hq9 ho
       clear haw hfr ho
       by_cases hlt : i < q
       ·have q1 : decide ((i : Int) < (q : Int)) = true := by go_num
        have hiL : i < Q.length := by have := HQL.out; omega
        obtain ⟨x, hx⟩ : ∃ x, Q[i]? = some x := ⟨_, List.getElem?_eq_getElem hiL⟩
        have HX := hq9 hx
        obtain ⟨g1, hg1, e0, e1, e2, e3, e4⟩ := row_link AW.out.row hx
        obtain rfl : gq = g1 := by injection hg1 with h; injection h
        clear hg1 hx
        have hwr : IntKind.i64.wrap ((i : Int) + 1) = (i : Int) + 1 := by rw [IntKind.wrap_i64]; have := HQS.out; omega
        have HLK : Hid (linkV x = .agg #[.string ⟨x.key.toArray⟩, .int .u64 x.id, .int .u64 x.ver, .int .i64 x.line, .int .i64 x.cls]) := rfl
        have BK := hq9 (Blk.new wr 70 #[.string ⟨x.key.toArray⟩, .int .u64 x.id, .int .u64 x.ver, .int .i64 x.line, .int .i64 x.cls])
        have OK := (Only.refl [] wr).alloc (.cells #[.string ⟨x.key.toArray⟩, .int .u64 x.id, .int .u64 x.ver, .int .i64 x.line, .int .i64 x.cls] 70)
        have AW7 := hq9 (AW.out.keep0 OK)
        have ON7 := hq9 (ON.out.trans0 OK)
        clear OK
        go_wp2_with fail
        clear e0 e1 e2 e3 e4
        generalize (wr.alloc _) = w7 at *
        have h7 : w7.cell? ⟨B0.a, 7, none⟩ = some (.pointer (some ⟨B0.l, 0, none⟩)) := AW7.out.head.cell 7
        have k0 := BK.out.cell 0
        have k1 := BK.out.cell 1
        have k2 := BK.out.cell 2
        have k3 := BK.out.cell 3
        have k4 := BK.out.cell 4
        refine wp_region_later_tail w7 5 (by kernel_rfl) (by kernel_rfl) ?_
        simp only [List.take_succ_cons, List.take_zero, List.drop_succ_cons, List.drop_zero]
        have fh7 := fun (p : Later w7) => Later.cell p h7
        have fk0 := fun (p : Later w7) => Later.cell p k0
        have fk1 := fun (p : Later w7) => Later.cell p k1
        have fk2 := fun (p : Later w7) => Later.cell p k2
        have fk3 := fun (p : Later w7) => Later.cell p k3
        have fk4 := fun (p : Later w7) => Later.cell p k4
        clear h7 k0 k1 k2 k3 k4
        repeat (go_big_quiet_step (fail))
        repeat (go_big_quiet_step (fail))
        refine wpQuiet_nil ?_
        intro _ hw'
        obtain ⟨p, hw''⟩ := hw'
        subst hw''
        have opw := p.only
        clear fh7 fk0 fk1 fk2 fk3 fk4
        generalize p.w = w8 at *
        have AW8 := hq9 (AW7.out.keep0 opw)
        have ON8 := hq9 (ON7.out.trans0 opw)
        clear opw AW7 ON7 BK
        have LP := hq9 (line_Push B0.l lv (Q.take i) x w8 AW8.out.line (by rw [List.length_take]; have := HQL.out; have := HQS.out; omega))
        rw [HLK.out] at LP
        go_wp2_with fail
        refine LP.out.mono ?_
        rintro r w9 ⟨lv2, rfl, l9, n9, o9⟩
        have het : Q.take i ++ [x] = Q.take (i + 1) := by rw [List.take_add_one, HX.out]; rfl
        rw [het] at l9
        clear het
        have AW9 := hq9 (show ArW w9 gd { B0 with ov := us, lv := lv2 } (ovS n e N A Ls (Q.take (i + 1))) (.slice (some ⟨gq, 0, none⟩) q cq) Q from AW8.out.push o9 l9 n9)
        have HS8 := ON8.out.size
        have HLF := hq9 (show w.heap.size ≤ B0.l from HFR.out B0.l (by simp [arFs]))
        have ON9 := hq9 (ON8.out.trans o9 (fun b hb => .inr (by simp at hb; subst hb; exact HLF.out)))
        have FR9 := hq9 (fresh_line (lv2 := lv2) HFR.out (fun b hb => Nat.le_trans HS8 (n9 b hb)))
        clear l9 n9 o9 LP AW8 ON8 HS8
        go_wp2
        go_roundw
        case rel => exact ⟨i + 1, lv2, by go_num, by omega, AW9.out, FR9.out, ON9.out⟩
        case measure => simp only [intOf]; omega
       ·have q1 : decide ((i : Int) < (q : Int)) = false := by go_num
        have hiq : i = q := by omega
        subst hiq
        have HT := hq9 (show Q.take i = srtL A.line from by rw [HQL.out, List.take_length, HQ.out])
        go_wp2
        go_ret2
        refine ⟨?_, ON.out⟩
        rw [HOF.out]
        have haw := AW.out.ar
        rw [HT.out] at haw
        exact ⟨{ B0 with ov := us, lv := lv }, Ls, rfl, haw, fun b hb => HFR.out b (by rw [List.flatten_append]; exact List.mem_append_left _ hb)⟩
end Go.Proofs.YtlggichakafkiaaGreat
namespace Go.Proofs.YtlggichakafkiaaGreat
open Go.BigFrame Go.RowKit Go.Proofs.FuMem Go.Proofs.FuTop Go.Proofs.FuNvm
set_option maxRecDepth 100000
def DecAns (g gd e N : Nat) (L : List FuTop.Found) (fv sv : Value) (done why : Int) (w w' : World) (r : Ending) : Prop := match overOf srtL N (keptOf e L) with
 | none => (∃ c : Int, c ≠ 0 ∧ r = .returned (.int .i64 c)) ∧ Only [] w w'
 | some _ => r = .returned (.int .i64 0) ∧ ∃ kv : Value, RowS 339 9 w' kv ((keptOf e L).map foundC) ∧ Blk w' g 229 (rvHead gd 3 e 0 fv kv done sv why) ∧ Only [g] w w' ∧ ∀ b, kv.ownBlock = some b → w.heap.size ≤ b
theorem DecAns.no {g gd e N : Nat} {L : List FuTop.Found} {fv sv : Value} {done why : Int} {w w' : World} {c : Int} (h : overOf srtL N (keptOf e L) = none) (hc : c ≠ 0) (ho : Only [] w w') : DecAns g gd e N L fv sv done why w w' (.returned (.int .i64 c)) := by
 unfold DecAns
 rw [h]
 exact ⟨⟨c, hc, rfl⟩, ho⟩
theorem DecAns.yes {g gd e N : Nat} {L : List FuTop.Found} {fv sv kv : Value} {done why : Int} {w w' : World} {A : Ar} (h : overOf srtL N (keptOf e L) = some A) (hr : RowS 339 9 w' kv ((keptOf e L).map foundC)) (hb : Blk w' g 229 (rvHead gd 3 e 0 fv kv done sv why)) (ho : Only [g] w w') (hf : ∀ b, kv.ownBlock = some b → w.heap.size ≤ b) : DecAns g gd e N L fv sv done why w w' (.returned (.int .i64 0)) := by
 unfold DecAns
 rw [h]
 exact ⟨rfl, kv, hr, hb, ho, hf⟩
theorem take_filter {e i : Nat} {L : List FuTop.Found} {x : FuTop.Found} (p : FuTop.Found → Bool) (hx : L[i]? = some x) : (L.take (i + 1)).filter p = (L.take i).filter p ++ if p x = true then [x] else [] := by
 rw [List.take_add_one, hx, List.filter_append]
 congr 1
 cases h : p x <;> simp [h]
set_option maxHeartbeats 4000000 in
theorem rv_decide (g gd cb cap e nx : Nat) (fv kv sv : Value) (done why : Int) (L : List FuTop.Found) (D : Dev) (w : World) (hb : Blk w g 229 (rvHead gd 2 e nx fv kv done sv why)) (hr : RowS 339 9 w fv (L.map foundC)) (hd : DevAt w gd cb cap D)
  (h10 : 10 ≤ D.lines.length) (he : e ≤ 1152921504606846976) (hL : ∀ x ∈ L, Bd x) (hn : L.length ≤ 1000) :
  Calls Tryz.prog 159 #[.pointer (some ⟨g, 0, none⟩)] w fun r w' => DecAns g gd e D.lines.length L fv sv done why w w' r := by
 have HB := hq9 hb
 have HR := hq9 hr
 have HD := hq9 hd
 have HOV := hq9 (fun v w hd hr => arena_Over gd cb cap D 1 e v (keptOf e L) w hd h10 (by omega) (by omega) he hr (fun x hx => hL x (List.mem_filter.1 hx).1) (Nat.le_trans (List.length_filter_le _ _) hn))
 have HKP := hq9 (fun x w hb hr => rv_keeps g e fv L x (rvHead gd 2 e nx fv kv done sv why) w hb rfl rfl hr (by omega))
 obtain ⟨A, c, hfv, _, _⟩ := hr.slice
 obtain ⟨m, hm⟩ : ∃ m, m = L.length := ⟨_, rfl⟩
 rw [List.length_map, ← hm] at hfv
 have c5 : w.cell? ⟨g, 5, none⟩ = some (.slice A m c) := by
  have : w.cell? ⟨g, 5, none⟩ = some fv := hb.cell 5
  rw [this, hfv]
 have HFV := hq9 hfv
 have HM := hq9 hm
 have hm1 : m ≤ 1000 := by omega
 generalize D.lines.length = N at *
 clear hb hr hd hfv hm hL h10 he
 go_enter Tryz.func159, Tryz.ntmps159
 go_wp2_with fail
 clear c5
 go_loopw [13, 3] (fun vi vv wr => ∃ i : Nat, vi = .int .i64 i ∧ i ≤ m ∧ RowS 339 9 wr vv (((L.take i).filter (keeps e L)).map foundC) ∧ (∀ b, vv.ownBlock = some b → w.heap.size ≤ b) ∧ Only [] w wr) (fun vi _ _ => m - (intOf vi).toNat)
 case atStart => exact ⟨0, rfl, by omega, RowS.nil _ _ _, fun b hb => (by cases hb), Only.refl _ _⟩
 case round =>
  obtain ⟨i, rfl, hin, hrw, hfr, ho⟩ := hrel
  have RW := hq9 hrw
  have FR := hq9 hfr
  have ON := hq9 ho
  clear hrw hfr ho
  by_cases hlt : i < m
  ·have q1 : decide ((i : Int) < (m : Int)) = true := by go_num
   have hiL : i < L.length := by have := HM.out; omega
   obtain ⟨x, hx⟩ : ∃ x, L[i]? = some x := ⟨_, List.getElem?_eq_getElem hiL⟩
   have hrr := HR.out.only0 ON.out
   rw [HFV.out] at hrr
   obtain ⟨bg, rfl, e0, e1, e2, e3, e4, e5, e6, e7, e8⟩ := row_found hrr hx
   have HTF := hq9 (take_filter (e := 0) (keeps e L) hx)
   clear hrr hx
   have hwr : IntKind.i64.wrap ((i : Int) + 1) = (i : Int) + 1 := by rw [IntKind.wrap_i64]; omega
   have HK := hq9 (fun w1 (o : Only [] w w1) => HKP.out x w1 (HB.out.only o (by simp)) (HR.out.only0 o))
   obtain ⟨kp, hkp⟩ : ∃ b, b = keeps e L x := ⟨_, rfl⟩
   rw [← hkp] at HK HTF
   clear hkp
   have HV : Hid (foundV x = .agg #[.int .i64 x.line, .bool x.good, .int .i64 x.b.cls, .int .i64 x.b.kind, .int .u64 x.b.id, .int .u64 x.b.ver, .int .u64 x.b.ep, .string ⟨x.b.key.toArray⟩, .string ⟨x.b.val.toArray⟩]) := rfl
   have HC : Hid (foundC x = [.int .i64 x.line, .bool x.good, .int .i64 x.b.cls, .int .i64 x.b.kind, .int .u64 x.b.id, .int .u64 x.b.ver, .int .u64 x.b.ep, .string ⟨x.b.key.toArray⟩, .string ⟨x.b.val.toArray⟩]) := rfl
   obtain ⟨kb, hkb⟩ : ∃ s : ByteArray, s = ⟨x.b.key.toArray⟩ := ⟨_, rfl⟩
   obtain ⟨vb, hvb⟩ : ∃ s : ByteArray, s = ⟨x.b.val.toArray⟩ := ⟨_, rfl⟩
   rw [← hkb] at e7 HV HC
   rw [← hvb] at e8 HV HC
   rw [HV.out] at HK
   clear hkb hvb
   have BX := hq9 (Blk.new wr 339 #[.int .i64 x.line, .bool x.good, .int .i64 x.b.cls, .int .i64 x.b.kind, .int .u64 x.b.id, .int .u64 x.b.ver, .int .u64 x.b.ep, .string kb, .string vb])
   have ox := (Only.refl [] wr).alloc (.cells #[.int .i64 x.line, .bool x.good, .int .i64 x.b.cls, .int .i64 x.b.kind, .int .u64 x.b.id, .int .u64 x.b.ver, .int .u64 x.b.ep, .string kb, .string vb] 339)
   have O1 := hq9 (ON.out.trans0 ox)
   have R1 := hq9 (RW.out.only0 ox)
   clear ox
   have z0 := BX.out.cell 0
   have z1 := BX.out.cell 1
   have z2 := BX.out.cell 2
   have z3 := BX.out.cell 3
   have z4 := BX.out.cell 4
   have z5 := BX.out.cell 5
   have z6 := BX.out.cell 6
   have z7 := BX.out.cell 7
   have z8 := BX.out.cell 8
   go_wp2_with fail
   clear z0 z1 z2 z3 z4 z5 z6 z7 z8 e0 e1 e2 e3 e4 e5 e6 e7 e8
   generalize (wr.alloc _) = w1 at *
   refine (HK.out w1 O1.out).mono ?_
   rintro r w2 ⟨rfl, o2⟩
   have O2 := hq9 (O1.out.trans0 o2)
   have R2 := hq9 (R1.out.only0 o2)
   have BX2 := hq9 (BX.out.only o2 (by simp))
   clear o2
   cases kp with
   | false =>
     go_wp2
     go_roundw
     case rel => exact ⟨i + 1, by go_num, by omega, by rw [HTF.out]; simpa using R2.out, FR.out, O2.out⟩
     case measure => simp only [intOf]; omega
   | true =>
     have z0 := BX2.out.cell 0
     have z1 := BX2.out.cell 1
     have z2 := BX2.out.cell 2
     have z3 := BX2.out.cell 3
     have z4 := BX2.out.cell 4
     have z5 := BX2.out.cell 5
     have z6 := BX2.out.cell 6
     have z7 := BX2.out.cell 7
     have z8 := BX2.out.cell 8
     have ok := (Only.refl [] w2).alloc (.cells #[.int .i64 x.line, .bool x.good, .int .i64 x.b.cls, .int .i64 x.b.kind, .int .u64 x.b.id, .int .u64 x.b.ver, .int .u64 x.b.ep, .string kb, .string vb] 339)
     obtain ⟨v5, w5, hr5, r5, o5, l5⟩ := push_found (w := (w2.alloc (.cells #[.int .i64 x.line, .bool x.good, .int .i64 x.b.cls, .int .i64 x.b.kind, .int .u64 x.b.id, .int .u64 x.b.ver, .int .u64 x.b.ep, .string kb, .string vb] 339))) (L := (L.take i).filter (keeps e L)) (R2.out.only0 ok) (by have := List.length_filter_le (keeps e L) (L.take i); have := List.length_take_le i L; omega) (A := some ⟨w2.heap.size, 0, none⟩) (x := x) (by rw [HC.out]; exact Sl.of_blk (Blk.new w2 339 #[.int .i64 x.line, .bool x.good, .int .i64 x.b.cls, .int .i64 x.b.kind, .int .u64 x.b.id, .int .u64 x.b.ver, .int .u64 x.b.ep, .string kb, .string vb]) 0 rfl (by simp))
     have hsz : w.heap.size ≤ w2.heap.size := O2.out.size
     have hsz4 : (w2.alloc (.cells #[.int .i64 x.line, .bool x.good, .int .i64 x.b.cls, .int .i64 x.b.kind, .int .u64 x.b.id, .int .u64 x.b.ver, .int .u64 x.b.ep, .string kb, .string vb] 339)).heap.size = w2.heap.size + 1 := by simp
     have F5 := hq9 (show ∀ b, v5.ownBlock = some b → w.heap.size ≤ b from fun b hb => by
      rcases l5 with h | h
      ·exact FR.out b (by rw [← h]; exact hb)
      ·rw [h] at hb
       have := Option.some.inj hb
       omega)
     have R5 := hq9 r5
     have O5 := hq9 ((O2.out.trans0 ok).trans o5 (fun b hb => .inr (FR.out b (own_mem.1 hb))))
     clear r5 o5 l5 hsz hsz4 ok
     go_wp2_with (at_builtin; refine wpList_append_run _ rfl (.tmp 20) (.tmp 22) 227 rfl _ _ rfl rfl _ _ hr5 ?_)
     clear z0 z1 z2 z3 z4 z5 z6 z7 z8 hr5
     go_roundw
     case rel => exact ⟨i + 1, by go_num, by omega, by rw [HTF.out]; exact R5.out, F5.out, O5.out⟩
     case measure => simp only [intOf]; omega
  ·have q1 : decide ((i : Int) < (m : Int)) = false := by go_num
   have HKE := hq9 (show (L.take i).filter (keeps e L) = keptOf e L from by rw [show i = L.length by have := HM.out; omega, List.take_length]; rfl)
   rw [HKE.out] at RW
   obtain ⟨A3, c3, hv3, _, _⟩ := RW.out.slice
   obtain ⟨m3, hm3⟩ : ∃ m, m = ((keptOf e L).map foundC).length := ⟨_, rfl⟩
   rw [← hm3] at hv3
   clear hm3
   subst hv3
   have hdw : Only [] w wr.drew := ON.out.drew
   have ODW := hq9 hdw
   have hov0 := HOV.out (Value.slice A3 m3 c3) wr.drew (HD.out.only0 hdw) (RW.out.only0 (Only.refl [] wr).drew)
   have BW := hq9 (HB.out.only ON.out (by simp))
   have d0 : wr.drew.cell? ⟨g, 0, none⟩ = some (.pointer (some ⟨gd, 0, none⟩)) := BW.out.cell 0
   have d1 : wr.drew.cell? ⟨g, 1, none⟩ = some (.int .i64 1) := BW.out.cell 1
   have d3 : wr.drew.cell? ⟨g, 3, none⟩ = some (.int .u64 e) := BW.out.cell 3
   rw [show ((1 : Nat) : Int) = 1 from rfl] at hov0
   clear hdw
   cases hov : overOf srtL N (keptOf e L) with
   | none =>
     rw [hov] at hov0
     have HO1 := hq9 (hov0.mono (R' := fun r w3 => (∃ x : Int, x ≠ 0 ∧ r = .returned (.tuple #[.pointer none, .int .i64 x])) ∧ Only [] wr.drew w3) (fun r w3 h => h))
     have HOVV := hq9 hov
     clear hov hov0
     go_wp2_with fail
     go_region_law (first | (go_simp; go_at_call 198; refine HO1.out.mono ?_; rintro r w3 ⟨⟨x, hx, rfl⟩, o3⟩; have O3 := hq9 (ODW.out.trans0 o3); have HX := hq9 hx; have g1 : (x != 0) = true := (by simpa using hx); clear o3))
     all_goals
      go_wp2
      go_ret
      exact DecAns.no HOVV.out HX.out O3.out
   | some A0 =>
     rw [hov] at hov0
     have HO1 := hq9 (hov0.mono (R' := fun r w3 => (∃ a : Value, r = .returned (.tuple #[a, .int .i64 0])) ∧ Only [] wr.drew w3) (fun r w3 h => by
      obtain ⟨⟨B, Ls, hr, _⟩, ho⟩ := h
      exact ⟨⟨_, hr⟩, ho⟩))
     have HOVV := hq9 hov
     clear hov hov0
     go_wp2_with fail
     have FACT := hq9 (show ∀ w3, Only [] wr.drew w3 → w3.cell? ⟨g, 6, none⟩ = some kv ∧ w3.frozen? ⟨g, 6, none⟩ = false ∧ Blk (w3.setCell ⟨g, 6, none⟩ (.slice A3 m3 c3)) g 229 (rvHead gd 2 e nx fv (.slice A3 m3 c3) done sv why) ∧ RowS 339 9 (w3.setCell ⟨g, 6, none⟩ (.slice A3 m3 c3)) (.slice A3 m3 c3) ((keptOf e L).map foundC) ∧ Only [g] w (w3.setCell ⟨g, 6, none⟩ (.slice A3 m3 c3)) from fun w3 o3 => by
      have o4 := (Only.refl [] wr).drew.trans0 o3
      have B3 := BW.out.only o4 (by simp)
      have os := (Only.refl [g] w3).setCell (p := ⟨g, 6, none⟩) (.inl (by simp)) (.slice A3 m3 c3)
      exact ⟨B3.cell 6, B3.frozen 6, B3.set 6 _, (RW.out.only0 o4).only os (fun b hb h => by have := FR.out b hb; have := HB.out.lt; simp at h; omega), ((ON.out.trans0 o4).mono (T := [g]) (by simp)).trans os (fun b hb => .inl hb)⟩)
     go_region_law (first | (go_simp; go_at_call 198; refine HO1.out.mono ?_; rintro r w3 ⟨⟨a, rfl⟩, o3⟩; obtain ⟨s6, f6, b6, r6, o6⟩ := FACT.out w3 o3; have B6 := hq9 b6; have R6 := hq9 r6; have O6 := hq9 o6; clear b6 r6 o6 o3))
     all_goals
      go_wp2_with fail
      clear s6 f6
      generalize (w3.setCell ⟨g, 6, none⟩ (Value.slice A3 m3 c3)) = w6 at *
      refine (rv_to g gd 2 3 e nx fv (.slice A3 m3 c3) done sv why w6 B6.out).mono ?_
      rintro r w7 ⟨rfl, b7, o7⟩
      have B7 := hq9 b7
      have R7 := hq9 (R6.out.only o7 (fun b hb h => by have := FR.out b hb; have := HB.out.lt; simp at h; omega))
      have O7 := hq9 (O6.out.trans o7 (fun b hb => .inl hb))
      clear b7 o7
      go_wp2
      go_ret
      exact DecAns.yes HOVV.out R7.out B7.out O7.out FR.out
end Go.Proofs.YtlggichakafkiaaGreat
namespace Go.Proofs.YtlggichakafkiaaGreat
open Go.BigFrame Go.RowKit Go.Proofs.FuMem Go.Proofs.FuTop Go.Proofs.FuNvm Go.Proofs.FuBlock
set_option maxRecDepth 100000
theorem rv_scrub (g gd cb cap e nx : Nat) (fv kv sv : Value) (done why : Int) (F : List FuTop.Found) (D : Dev) (w : World) (hb : Blk w g 229 (rvHead gd 3 e nx fv kv done sv why)) (hr : RowS 339 9 w fv (F.map foundC)) (hd : DevAt w gd cb cap D)
  (hne : ∀ b, fv.ownBlock = some b → b ≠ g ∧ b ≠ gd ∧ b ≠ cb) (hgd : g ≠ gd ∧ g ≠ cb) (hn : F.length ≤ 1000) (hF : ∀ x ∈ F, Bd x ∧ x.line < D.lines.length) (hnx : nx ≤ F.length) :
  Calls Tryz.prog 160 #[.pointer (some ⟨g, 0, none⟩)] w fun r w' => r = .returned (.int .i64 0) ∧ WipeAns g gd cb cap e 3 4 (toScrub e F) F nx fv kv sv done why D w' ∧ Only [g, gd, cb] w w' := by
 have OX := hq9 ((Only.refl [] w).alloc (.cells #[.pointer (some ⟨g, 0, none⟩)] 124))
 have b1 := Blk.new w 124 #[.pointer (some ⟨g, 0, none⟩)]
 have c0 := b1.cell 0
 have hgl := hb.lt
 have HW := hq9 (rv_wipe_scrub w.heap.size g gd cb cap e nx 3 4 fv kv sv done why F D _ (hb.only OX.out (by simp)) (hr.only0 OX.out) (hd.only0 OX.out) b1 (by omega) hne hgd hn hF hnx)
 clear hb hr hd hne hgd hF b1
 have hmf : ∀ (fn : Fn) (first cap : Array Value) (w : World), (Instr.makeFunc fn first cap).run Tryz.prog w = .ok (.func fn first cap) w := fun _ _ _ _ => rfl
 go_enter Tryz.func160, Tryz.ntmps160
 go_wp2_with fail
 refine HW.out.mono ?_
 rintro r w2 ⟨rfl, a2, o2⟩
 have A2 := hq9 a2
 have O2 := hq9 (OX.out.mono (T := [g, gd, cb]) (by simp))
 have O3 := hq9 (O2.out.trans o2 (fun b hb => .inl hb))
 clear a2 o2 c0
 go_wp2
 go_ret
 exact ⟨rfl, A2.out, O3.out⟩
theorem rv_antis (g gd cb cap e nx : Nat) (fv kv sv : Value) (done why : Int) (F : List FuTop.Found) (D : Dev) (w : World) (hb : Blk w g 229 (rvHead gd 4 e nx fv kv done sv why)) (hr : RowS 339 9 w fv (F.map foundC)) (hd : DevAt w gd cb cap D)
  (hne : ∀ b, fv.ownBlock = some b → b ≠ g ∧ b ≠ gd ∧ b ≠ cb) (hgd : g ≠ gd ∧ g ≠ cb) (hn : F.length ≤ 1000) (hF : ∀ x ∈ F, Bd x ∧ x.line < D.lines.length) (hnx : nx ≤ F.length) :
  Calls Tryz.prog 161 #[.pointer (some ⟨g, 0, none⟩)] w fun r w' => r = .returned (.int .i64 0) ∧ WipeAns g gd cb cap e 4 5 (anti e) F nx fv kv sv done why D w' ∧ Only [g, gd, cb] w w' := by
 have HW := hq9 (rv_wipe_anti g gd cb cap e nx 4 5 fv kv sv done why F D w hb hr hd hne hgd hn hF hnx)
 clear hb hr hd hne hgd hF
 have hmf : ∀ (fn : Fn) (first cap : Array Value) (w : World), (Instr.makeFunc fn first cap).run Tryz.prog w = .ok (.func fn first cap) w := fun _ _ _ _ => rfl
 go_enter Tryz.func161, Tryz.ntmps161
 go_wp2_with fail
 refine HW.out.mono ?_
 rintro r w2 ⟨rfl, a2, o2⟩
 have A2 := hq9 a2
 have O2 := hq9 o2
 clear a2 o2
 go_wp2
 go_ret
 exact ⟨rfl, A2.out, O2.out⟩
def RebIn (g gd e N : Nat) (nx : Int) (fv kv : Value) (K : List FuTop.Found) (w w' : World) : Prop := match overOf srtL N K with
 | none => ∃ c : Int, c ≠ 0 ∧ Blk w' g 229 #[.pointer (some ⟨gd, 0, none⟩), .int .i64 1, .int .i64 5, .int .u64 e, .int .i64 nx, fv, kv, .int .u32 0, .int .i32 1, .int .u32 0, .pointer none, .int .i64 c] ∧ Only [g] w w'
 | some A => ∃ (B : ArB) (Ls : List (List FuTop.Link)), Blk w' g 229 #[.pointer (some ⟨gd, 0, none⟩), .int .i64 1, .int .i64 5, .int .u64 e, .int .i64 nx, fv, kv, .int .u32 0, .int .i32 1, .int .u32 0, pt B.a, .int .i64 0] ∧ ArAt w' gd B (ovS 1 e N A Ls A.line) ∧ (∀ b ∈ (arFs B).flatten, w.heap.size ≤ b) ∧ Only [g] w w'
theorem RebIn.no {g gd e N : Nat} {nx : Int} {fv kv : Value} {K : List FuTop.Found} {w w' : World} {c : Int} (h : overOf srtL N K = none) (hc : c ≠ 0) (hb : Blk w' g 229 #[.pointer (some ⟨gd, 0, none⟩), .int .i64 1, .int .i64 5, .int .u64 e, .int .i64 nx, fv, kv, .int .u32 0, .int .i32 1, .int .u32 0, .pointer none, .int .i64 c]) (ho : Only [g] w w') : RebIn g gd e N nx fv kv K w w' := by
 unfold RebIn
 rw [h]
 exact ⟨c, hc, hb, ho⟩
theorem RebIn.yes {g gd e N : Nat} {nx : Int} {fv kv : Value} {K : List FuTop.Found} {w w' : World} {A : Ar} {B : ArB} {Ls : List (List FuTop.Link)} (h : overOf srtL N K = some A) (hb : Blk w' g 229 #[.pointer (some ⟨gd, 0, none⟩), .int .i64 1, .int .i64 5, .int .u64 e, .int .i64 nx, fv, kv, .int .u32 0, .int .i32 1, .int .u32 0, pt B.a, .int .i64 0]) (ha : ArAt w' gd B (ovS 1 e N A Ls A.line)) (hf : ∀ b ∈ (arFs B).flatten, w.heap.size ≤ b) (ho : Only [g] w w') : RebIn g gd e N nx fv kv K w w' := by
 unfold RebIn
 rw [h]
 exact ⟨B, Ls, hb, ha, hf, ho⟩
set_option maxHeartbeats 4000000 in
theorem rv_rebuild1 (b1 g gd cb cap e nx : Nat) (fv kv : Value) (K : List FuTop.Found) (D : Dev) (w : World) (h1 : Blk w b1 124 #[.pointer (some ⟨g, 0, none⟩)]) (hb1 : b1 ≠ g)
  (hb : Blk w g 229 #[.pointer (some ⟨gd, 0, none⟩), .int .i64 1, .int .i64 5, .int .u64 e, .int .i64 nx, fv, kv, .int .u32 0, .int .i32 1, .int .u32 0, .pointer none, .int .i64 0]) (hr : RowS 339 9 w kv (K.map foundC)) (hd : DevAt w gd cb cap D)
  (h10 : 10 ≤ D.lines.length) (he : e ≤ 1152921504606846976) (hK : ∀ x ∈ K, Bd x) (hn : K.length ≤ 1000) :
  Calls Tryz.prog 202 #[.pointer (some ⟨b1, 0, none⟩)] w fun r w' => r = .returned (.tuple #[]) ∧ RebIn g gd e D.lines.length nx fv kv K w w' := by
 obtain ⟨A, c, hkv, _, _⟩ := hr.slice
 obtain ⟨m, hm⟩ : ∃ m, m = (K.map foundC).length := ⟨_, rfl⟩
 rw [← hm] at hkv
 clear hm
 subst hkv
 have HOV := hq9 (fun w hd hr => arena_Over gd cb cap D 1 e (.slice A m c) K w hd h10 (by omega) (by omega) he hr hK hn)
 have HB := hq9 hb
 have HD := hq9 hd
 have HR := hq9 hr
 have H1 := hq9 (And.intro h1 hb1)
 have HSS := hq9 (show ∀ W cs, Blk W g 229 cs → cs[0]? = some (.pointer (some ⟨gd, 0, none⟩)) → cs[1]? = some (.int .i64 1) → cs[3]? = some (.int .u64 e) → cs[6]? = some (.slice A m c) → Blk W b1 124 #[.pointer (some ⟨g, 0, none⟩)] → W.cell? ⟨b1, 0, none⟩ = some (.pointer (some ⟨g, 0, none⟩)) ∧ W.cell? ⟨g, 0, none⟩ = some (.pointer (some ⟨gd, 0, none⟩)) ∧ W.cell? ⟨g, 1, none⟩ = some (.int .i64 1) ∧ W.cell? ⟨g, 3, none⟩ = some (.int .u64 e) ∧ W.cell? ⟨g, 6, none⟩ = some (.slice A m c) from fun W cs hb h0 h1 h3 h6 hx => ⟨hx.cell 0, (hb.cell 0).trans h0, (hb.cell 1).trans h1, (hb.cell 3).trans h3, (hb.cell 6).trans h6⟩)
 have s0 := HSS.out w.drew _ (Blk.drew HB.out) rfl rfl rfl rfl (Blk.drew H1.out.1)
 have hov := HOV.out w.drew (HD.out.only0 (Only.refl [] w).drew) (HR.out.only0 (Only.refl [] w).drew)
 rw [show ((1 : Nat) : Int) = 1 from rfl] at hov
 clear hb hr hd h1 hb1 h10 he hK hn
 have HST := hq9 (show ∀ (sv : Value) (x : Int) (W : World), Only [] w W → (Blk W g 229 #[.pointer (some ⟨gd, 0, none⟩), .int .i64 1, .int .i64 5, .int .u64 e, .int .i64 nx, fv, .slice A m c, .int .u32 0, .int .i32 1, .int .u32 0, .pointer none, .int .i64 0]) ∧ Blk W b1 124 #[.pointer (some ⟨g, 0, none⟩)] ∧ Blk (W.setCell ⟨g, 10, none⟩ sv) g 229 #[.pointer (some ⟨gd, 0, none⟩), .int .i64 1, .int .i64 5, .int .u64 e, .int .i64 nx, fv, .slice A m c, .int .u32 0, .int .i32 1, .int .u32 0, sv, .int .i64 0] ∧ Blk (W.setCell ⟨g, 10, none⟩ sv) b1 124 #[.pointer (some ⟨g, 0, none⟩)] ∧ Blk ((W.setCell ⟨g, 10, none⟩ sv).setCell ⟨g, 11, none⟩ (.int .i64 x)) g 229 #[.pointer (some ⟨gd, 0, none⟩), .int .i64 1, .int .i64 5, .int .u64 e, .int .i64 nx, fv, .slice A m c, .int .u32 0, .int .i32 1, .int .u32 0, sv, .int .i64 x] ∧ Blk ((W.setCell ⟨g, 10, none⟩ sv).setCell ⟨g, 11, none⟩ (.int .i64 x)) b1 124 #[.pointer (some ⟨g, 0, none⟩)] ∧ Only [g] W ((W.setCell ⟨g, 10, none⟩ sv).setCell ⟨g, 11, none⟩ (.int .i64 x)) from fun sv x W o => by
  have B0 := HB.out.only o (by simp)
  have X0 := H1.out.1.only o (by simp)
  have o1 := (Only.refl [g] W).setCell (p := ⟨g, 10, none⟩) (.inl (by simp)) sv
  have B1 : Blk (W.setCell ⟨g, 10, none⟩ sv) g 229 #[.pointer (some ⟨gd, 0, none⟩), .int .i64 1, .int .i64 5, .int .u64 e, .int .i64 nx, fv, .slice A m c, .int .u32 0, .int .i32 1, .int .u32 0, sv, .int .i64 0] := B0.set 10 sv
  have X1 := X0.only o1 (by simpa using H1.out.2)
  have o2 := (Only.refl [g] (W.setCell ⟨g, 10, none⟩ sv)).setCell (p := ⟨g, 11, none⟩) (.inl (by simp)) (.int .i64 x)
  have B2 : Blk ((W.setCell ⟨g, 10, none⟩ sv).setCell ⟨g, 11, none⟩ (.int .i64 x)) g 229 #[.pointer (some ⟨gd, 0, none⟩), .int .i64 1, .int .i64 5, .int .u64 e, .int .i64 nx, fv, .slice A m c, .int .u32 0, .int .i32 1, .int .u32 0, sv, .int .i64 x] := B1.set 11 (.int .i64 x)
  have X2 := X1.only o2 (by simpa using H1.out.2)
  exact ⟨B0, X0, B1, X1, B2, X2, o1.trans o2 (fun b hb => .inl hb)⟩)
 have OD := hq9 (Only.refl [] w).drew
 cases hq : overOf srtL D.lines.length K with
 | none =>
   rw [hq] at hov
   have HO := hq9 (hov.mono (R' := fun r w3 => (∃ x : Int, x ≠ 0 ∧ r = .returned (.tuple #[.pointer none, .int .i64 x])) ∧ Only [] w.drew w3) (fun r w3 h => h))
   have HQ := hq9 hq
   clear hov hq
   go_enter Tryz.func202, Tryz.ntmps202
   go_wp2_with fail
   go_region_held3 (fun w' => w'.cell? ⟨b1, 0, none⟩ = some (.pointer (some ⟨g, 0, none⟩)) ∧ w'.cell? ⟨g, 0, none⟩ = some (.pointer (some ⟨gd, 0, none⟩)) ∧ w'.cell? ⟨g, 1, none⟩ = some (.int .i64 1) ∧ w'.cell? ⟨g, 3, none⟩ = some (.int .u64 e) ∧ w'.cell? ⟨g, 6, none⟩ = some (.slice A m c))
    (first | (with_reducible assumption) | (with_reducible exact s0) | (with_reducible exact s1) | (with_reducible exact s2) | (with_reducible exact s3) | go_keep)
    (first
     | (go_at_call 198; refine HO.out.mono ?_; rintro r w1 ⟨⟨x, hx, rfl⟩, o1⟩; have HX := hq9 hx; obtain ⟨y1, x1, y2, x2, y3, x3, o3⟩ := HST.out (.pointer none) x w1 (OD.out.trans0 o1); have s1 := HSS.out w1 _ y1 rfl rfl rfl rfl x1; have s2 := HSS.out _ _ y2 rfl rfl rfl rfl x2; have s3 := HSS.out _ _ y3 rfl rfl rfl rfl x3; have k10 : w1.cell? ⟨g, 10, none⟩ = some (.pointer none) := y1.cell 10; have z10 := y1.frozen 10; have k11 : (w1.setCell ⟨g, 10, none⟩ (.pointer none)).cell? ⟨g, 11, none⟩ = some (.int .i64 0) := y2.cell 11; have z11 := y2.frozen 11; have Y3 := hq9 y3; have O3 := hq9 (((OD.out.trans0 o1).mono (T := [g]) (by simp)).trans o3 (fun b hb => .inl hb)); clear hx o1 o3 y1 x1 y2 x2 y3 x3))
   go_wp2
   go_end0
   exact ⟨rfl, RebIn.no HQ.out HX.out Y3.out O3.out⟩
 | some A0 =>
   rw [hq] at hov
   have HO := hq9 (hov.mono (R' := fun r w3 => (∃ (B : ArB) (Ls : List (List FuTop.Link)), r = .returned (.tuple #[pt B.a, .int .i64 0]) ∧ ArAt w3 gd B (ovS 1 e D.lines.length A0 Ls A0.line) ∧ ∀ b ∈ (arFs B).flatten, w.heap.size ≤ b) ∧ Only [] w.drew w3) (fun r w3 h => h))
   have HQ := hq9 hq
   have HGL := hq9 HB.out.lt
   clear hov hq
   unfold pt at HO
   go_enter Tryz.func202, Tryz.ntmps202
   go_wp2_with fail
   go_region_held3 (fun w' => w'.cell? ⟨b1, 0, none⟩ = some (.pointer (some ⟨g, 0, none⟩)) ∧ w'.cell? ⟨g, 0, none⟩ = some (.pointer (some ⟨gd, 0, none⟩)) ∧ w'.cell? ⟨g, 1, none⟩ = some (.int .i64 1) ∧ w'.cell? ⟨g, 3, none⟩ = some (.int .u64 e) ∧ w'.cell? ⟨g, 6, none⟩ = some (.slice A m c))
    (first | (with_reducible assumption) | (with_reducible exact s0) | (with_reducible exact s1) | (with_reducible exact s2) | (with_reducible exact s3) | go_keep)
    (first
     | (go_at_call 198; refine HO.out.mono ?_; rintro r w1 ⟨⟨BB, Ls, rfl, ha, hfr⟩, o1⟩; have HA := hq9 ha; have HFR := hq9 hfr; obtain ⟨y1, x1, y2, x2, y3, x3, o3⟩ := HST.out (.pointer (some ⟨BB.a, 0, none⟩)) 0 w1 (OD.out.trans0 o1); have s1 := HSS.out w1 _ y1 rfl rfl rfl rfl x1; have s2 := HSS.out _ _ y2 rfl rfl rfl rfl x2; have s3 := HSS.out _ _ y3 rfl rfl rfl rfl x3; have k10 : w1.cell? ⟨g, 10, none⟩ = some (.pointer none) := y1.cell 10; have z10 := y1.frozen 10; have k11 : (w1.setCell ⟨g, 10, none⟩ (.pointer (some ⟨BB.a, 0, none⟩))).cell? ⟨g, 11, none⟩ = some (.int .i64 0) := y2.cell 11; have z11 := y2.frozen 11; have Y3 := hq9 y3; have O3 := hq9 (((OD.out.trans0 o1).mono (T := [g]) (by simp)).trans o3 (fun b hb => .inl hb)); have OO3 := hq9 o3; clear ha hfr o1 o3 y1 x1 y2 x2 y3 x3))
   go_wp2
   go_end0
   exact ⟨rfl, RebIn.yes HQ.out Y3.out (HA.out.keep OO3.out (fun b hb h => by have := HFR.out b hb; have := HGL.out; simp at h; omega)) HFR.out O3.out⟩
end Go.Proofs.YtlggichakafkiaaGreat
namespace Go.Proofs.YtlggichakafkiaaGreat
open Go.BigFrame Go.RowKit Go.Proofs.FuMem Go.Proofs.FuTop Go.Proofs.FuNvm Go.Proofs.FuBlock
set_option maxRecDepth 100000
def RebAns (g gd e N : Nat) (nx : Int) (fv kv : Value) (K : List FuTop.Found) (w w' : World) (r : Ending) : Prop := match overOf srtL N K with
 | none => ∃ c : Int, c ≠ 0 ∧ r = .returned (.int .i64 c) ∧ Blk w' g 229 (rvHead gd 5 e nx fv kv 1 (.pointer none) c)
 | some A => r = .returned (.int .i64 0) ∧ ∃ (B : ArB) (Ls : List (List FuTop.Link)), Blk w' g 229 (rvHead gd 6 e 0 fv kv 1 (pt B.a) 0) ∧ ArAt w' gd B (ovS 1 e N A Ls A.line) ∧ (∀ b ∈ (arFs B).flatten, w.heap.size ≤ b)
theorem RebAns.no {g gd e N : Nat} {nx : Int} {fv kv : Value} {K : List FuTop.Found} {w w' : World} {c : Int} (h : overOf srtL N K = none) (hc : c ≠ 0) (hb : Blk w' g 229 (rvHead gd 5 e nx fv kv 1 (.pointer none) c)) : RebAns g gd e N nx fv kv K w w' (.returned (.int .i64 c)) := by
 unfold RebAns
 rw [h]
 exact ⟨c, hc, rfl, hb⟩
theorem RebAns.yes {g gd e N : Nat} {nx : Int} {fv kv : Value} {K : List FuTop.Found} {w w' : World} {A : Ar} {B : ArB} {Ls : List (List FuTop.Link)} (h : overOf srtL N K = some A) (hb : Blk w' g 229 (rvHead gd 6 e 0 fv kv 1 (pt B.a) 0)) (ha : ArAt w' gd B (ovS 1 e N A Ls A.line)) (hf : ∀ b ∈ (arFs B).flatten, w.heap.size ≤ b) : RebAns g gd e N nx fv kv K w w' (.returned (.int .i64 0)) := by
 unfold RebAns
 rw [h]
 exact ⟨rfl, B, Ls, hb, ha, hf⟩
set_option maxHeartbeats 4000000 in
theorem rv_rebuild (g gd cb cap e nx : Nat) (fv kv : Value) (K : List FuTop.Found) (D : Dev) (w : World)
  (hb : Blk w g 229 (rvHead gd 5 e nx fv kv 0 (.pointer none) 0)) (hr : RowS 339 9 w kv (K.map foundC)) (hd : DevAt w gd cb cap D) (hko : ∀ b, kv.ownBlock = some b → b ≠ g) (hgd : g ≠ gd ∧ g ≠ cb)
  (h10 : 10 ≤ D.lines.length) (he : e ≤ 1152921504606846976) (hK : ∀ x ∈ K, Bd x) (hn : K.length ≤ 1000) :
  Calls Tryz.prog 162 #[.pointer (some ⟨g, 0, none⟩)] w fun r w' => RebAns g gd e D.lines.length nx fv kv K w w' r ∧ Only [g] w w' := by
 have hgl := hb.lt
 obtain ⟨w1, hw1⟩ : ∃ w1, w1 = w.alloc (.cells #[.pointer (some ⟨g, 0, none⟩)] 124) := ⟨_, rfl⟩
 have BX := Blk.new w 124 #[.pointer (some ⟨g, 0, none⟩)]
 have OX := (Only.refl [] w).alloc (.cells #[.pointer (some ⟨g, 0, none⟩)] 124)
 have r0 := BX.cell 0
 rw [← hw1] at BX OX
 have B1 := hb.only OX (by simp)
 have o2 := (Only.refl [g] w1).setCell (p := ⟨g, 8, none⟩) (.inl (by simp)) (.int .i32 1)
 have B2 : Blk (w1.setCell ⟨g, 8, none⟩ (.int .i32 1)) g 229 #[.pointer (some ⟨gd, 0, none⟩), .int .i64 1, .int .i64 5, .int .u64 e, .int .i64 nx, fv, kv, .int .u32 0, .int .i32 1, .int .u32 0, .pointer none, .int .i64 0] := B1.set 8 (.int .i32 1)
 have hxg : w.heap.size ≠ g := by omega
 have HF := rv_rebuild1 w.heap.size g gd cb cap e nx fv kv K D _ (BX.only o2 (by simpa using hxg)) hxg B2 ((hr.only0 OX).only o2 (fun b hb h => by simp at h; exact hko b hb h)) ((hd.only0 OX).only o2 (by simpa using fun h => hgd.1 h.symm) (by simpa using fun h => hgd.2 h.symm)) h10 he hK hn
 generalize D.lines.length = N at *
 have HO := hq9 (once_first g 7 202 #[.pointer (some ⟨w.heap.size, 0, none⟩)] (fun w => by simp [callFunc, Tryz.func202]; rfl) (fun w' => RebIn g gd e N nx fv kv K (w1.setCell ⟨g, 8, none⟩ (.int .i32 1)) w') w1 (B1.cell 7) (B1.cell 8) (B1.frozen 8) (HF.mono (by
  rintro r w' ⟨rfl, h⟩
  refine ⟨rfl, h, ?_⟩
  unfold RebIn at h
  split at h
  ·obtain ⟨c, _, h, _⟩ := h
   exact ⟨h.cell 7, h.cell 8, h.frozen 7, h.frozen 8⟩
  ·obtain ⟨B, Ls, h, _⟩ := h
   exact ⟨h.cell 7, h.cell 8, h.frozen 7, h.frozen 8⟩)))
 have XX := hq9 BX
 have OO := hq9 OX
 have O2 := hq9 ((OX.mono (T := [g]) (by simp)).trans o2 (fun b hb => .inl hb))
 have HW := hq9 hw1
 have HXG := hq9 hxg
 have HGL := hq9 hgl
 clear hb hr hd hko hgd h10 he hK hn BX OX B1 B2 o2 HF hw1 hxg hgl
 have hmf : ∀ (fn : Fn) (first cap : Array Value) (w : World), (Instr.makeFunc fn first cap).run Tryz.prog w = .ok (.func fn first cap) w := fun _ _ _ _ => rfl
 have SET := hq9 (show ∀ (w3 : World) (sv : Value) (x : Int), Only [g] w w3 → Blk w3 g 229 #[.pointer (some ⟨gd, 0, none⟩), .int .i64 1, .int .i64 5, .int .u64 e, .int .i64 nx, fv, kv, .int .u32 0, .int .i32 1, .int .u32 0, sv, .int .i64 x] → Blk w3 w.heap.size 124 #[.pointer (some ⟨g, 0, none⟩)] → Blk ((w3.drew.setCell ⟨g, 7, none⟩ (.int .u32 1)).setCell ⟨g, 8, none⟩ (.int .i32 0)) g 229 (rvHead gd 5 e nx fv kv 1 sv x) ∧ Blk ((w3.drew.setCell ⟨g, 7, none⟩ (.int .u32 1)).setCell ⟨g, 8, none⟩ (.int .i32 0)) w.heap.size 124 #[.pointer (some ⟨g, 0, none⟩)] ∧ Only [g] w3 ((w3.drew.setCell ⟨g, 7, none⟩ (.int .u32 1)).setCell ⟨g, 8, none⟩ (.int .i32 0)) ∧ Only [g] w ((w3.drew.setCell ⟨g, 7, none⟩ (.int .u32 1)).setCell ⟨g, 8, none⟩ (.int .i32 0)) from fun w3 sv x o hb hx => by
  have o1 : Only [g] w3 ((w3.drew.setCell ⟨g, 7, none⟩ (.int .u32 1)).setCell ⟨g, 8, none⟩ (.int .i32 0)) := ((Only.refl [g] w3).drew.setCell (p := ⟨g, 7, none⟩) (.inl (by simp)) _).setCell (p := ⟨g, 8, none⟩) (.inl (by simp)) _
  have b7 : Blk (w3.drew.setCell ⟨g, 7, none⟩ (.int .u32 1)) g 229 #[.pointer (some ⟨gd, 0, none⟩), .int .i64 1, .int .i64 5, .int .u64 e, .int .i64 nx, fv, kv, .int .u32 1, .int .i32 1, .int .u32 0, sv, .int .i64 x] := (Blk.drew hb).set 7 (.int .u32 1)
  have b8 : Blk ((w3.drew.setCell ⟨g, 7, none⟩ (.int .u32 1)).setCell ⟨g, 8, none⟩ (.int .i32 0)) g 229 (rvHead gd 5 e nx fv kv 1 sv x) := b7.set 8 (.int .i32 0)
  exact ⟨b8, hx.only o1 (by simpa using HXG.out), o1, o.trans o1 (fun b hb => .inl hb)⟩)
 have XX2 := hq9 (show ∀ w3, Only [g] (w1.setCell ⟨g, 8, none⟩ (.int .i32 1)) w3 → Blk w3 w.heap.size 124 #[.pointer (some ⟨g, 0, none⟩)] ∧ Only [g] w w3 from fun w3 o => ⟨(XX.out.only ((Only.refl [g] w1).setCell (p := ⟨g, 8, none⟩) (.inl (by simp)) (.int .i32 1)) (by simpa using HXG.out)).only o (by simpa using HXG.out), O2.out.trans o (fun b hb => .inl hb)⟩)
 have SZ : Hid (w.heap.size ≤ (w1.setCell ⟨g, 8, none⟩ (.int .i32 1)).heap.size) := O2.out.size
 cases hq : overOf srtL N K with
 | none =>
   have HQ := hq9 hq
   clear hq
   go_enter Tryz.func162, Tryz.ntmps162
   go_wp2_with fail
   rw [← HW.out]
   refine HO.out.mono ?_
   rintro r w' ⟨rfl, w3, hin, rfl⟩
   unfold RebIn at hin
   rw [HQ.out] at hin
   obtain ⟨c, hc, hb3, ho3⟩ := hin
   obtain ⟨x3, o3⟩ := XX2.out w3 ho3
   obtain ⟨b4, x4, _, o4⟩ := SET.out w3 _ c o3 hb3 x3
   have HC := hq9 hc
   have B4 := hq9 b4
   have X4 := hq9 x4
   have O4 := hq9 o4
   have q1 : (c != 0) = true := by simpa using hc
   clear hb3 ho3 x3 o3 b4 x4 o4 hc r0
   generalize ((w3.drew.setCell _ _).setCell _ _) = w4 at *
   have k0 : w4.cell? ⟨w.heap.size, 0, none⟩ = some (.pointer (some ⟨g, 0, none⟩)) := X4.out.cell 0
   have k11 : w4.cell? ⟨g, 11, none⟩ = some (.int .i64 c) := B4.out.cell 11
   go_wp2
   go_ret
   exact ⟨RebAns.no HQ.out HC.out B4.out, O4.out⟩
 | some A0 =>
   have HQ := hq9 hq
   clear hq
   go_enter Tryz.func162, Tryz.ntmps162
   go_wp2_with fail
   rw [← HW.out]
   refine HO.out.mono ?_
   rintro r w' ⟨rfl, w3, hin, rfl⟩
   unfold RebIn at hin
   rw [HQ.out] at hin
   obtain ⟨B, Ls, hb3, ha3, hf3, ho3⟩ := hin
   obtain ⟨x3, o3⟩ := XX2.out w3 ho3
   obtain ⟨b4, x4, o34, o4⟩ := SET.out w3 _ 0 o3 hb3 x3
   have hf : ∀ b ∈ (arFs B).flatten, w.heap.size ≤ b := fun b hb => Nat.le_trans SZ.out (hf3 b hb)
   have A4 := hq9 (ha3.keep o34 (fun b hb h => by have := hf b hb; have := HGL.out; simp at h; omega))
   have HFR := hq9 hf
   have B4 := hq9 b4
   have X4 := hq9 x4
   have O4 := hq9 o4
   clear hb3 ho3 x3 o3 b4 x4 o4 r0 ha3 hf3 hf o34
   generalize ((w3.drew.setCell _ _).setCell _ _) = w4 at *
   have k0 : w4.cell? ⟨w.heap.size, 0, none⟩ = some (.pointer (some ⟨g, 0, none⟩)) := X4.out.cell 0
   have k11 : w4.cell? ⟨g, 11, none⟩ = some (.int .i64 0) := B4.out.cell 11
   go_wp2_with fail
   refine (rv_to g gd 5 6 e nx fv kv 1 (pt B.a) 0 w4 B4.out).mono ?_
   rintro r w5 ⟨rfl, b5, o5⟩
   have B5 := hq9 b5
   have A5 := hq9 (A4.out.keep o5 (fun b hb h => by have := HFR.out b hb; have := HGL.out; simp at h; omega))
   have O5 := hq9 (O4.out.trans o5 (fun b hb => .inl hb))
   clear b5 o5 k0 k11
   go_wp2
   go_ret
   exact ⟨RebAns.yes HQ.out B5.out A5.out HFR.out, O5.out⟩
end Go.Proofs.YtlggichakafkiaaGreat
namespace Go.Proofs.YtlggichakafkiaaGreat
open Go.BigFrame Go.RowKit Go.Proofs.FuMem Go.Proofs.FuTop Go.Proofs.FuNvm
set_option maxRecDepth 100000
theorem Blk.fill6 {w : World} {g : Nat} {t : TypeId} {u0 u1 u2 u3 u4 u5 : Value} (hb : Blk w g t #[u0, u1, u2, u3, u4, u5]) (v0 v1 v2 v3 v4 v5 : Value) : Blk ((((((w.setCell ⟨g, 0, none⟩ v0).setCell ⟨g, 1, none⟩ v1).setCell ⟨g, 2, none⟩ v2).setCell ⟨g, 3, none⟩ v3).setCell ⟨g, 4, none⟩ v4).setCell ⟨g, 5, none⟩ v5) g t #[v0, v1, v2, v3, v4, v5] ∧ Only [g] w ((((((w.setCell ⟨g, 0, none⟩ v0).setCell ⟨g, 1, none⟩ v1).setCell ⟨g, 2, none⟩ v2).setCell ⟨g, 3, none⟩ v3).setCell ⟨g, 4, none⟩ v4).setCell ⟨g, 5, none⟩ v5) := by
 have h0 : Blk (w.setCell ⟨g, 0, none⟩ v0) g t #[v0, u1, u2, u3, u4, u5] := by simpa using hb.set 0 v0
 have h1 : Blk ((w.setCell ⟨g, 0, none⟩ v0).setCell ⟨g, 1, none⟩ v1) g t #[v0, v1, u2, u3, u4, u5] := by simpa using h0.set 1 v1
 have h2 : Blk (((w.setCell ⟨g, 0, none⟩ v0).setCell ⟨g, 1, none⟩ v1).setCell ⟨g, 2, none⟩ v2) g t #[v0, v1, v2, u3, u4, u5] := by simpa using h1.set 2 v2
 have h3 : Blk ((((w.setCell ⟨g, 0, none⟩ v0).setCell ⟨g, 1, none⟩ v1).setCell ⟨g, 2, none⟩ v2).setCell ⟨g, 3, none⟩ v3) g t #[v0, v1, v2, v3, u4, u5] := by simpa using h2.set 3 v3
 have h4 : Blk (((((w.setCell ⟨g, 0, none⟩ v0).setCell ⟨g, 1, none⟩ v1).setCell ⟨g, 2, none⟩ v2).setCell ⟨g, 3, none⟩ v3).setCell ⟨g, 4, none⟩ v4) g t #[v0, v1, v2, v3, v4, u5] := by simpa using h3.set 4 v4
 have h5 : Blk ((((((w.setCell ⟨g, 0, none⟩ v0).setCell ⟨g, 1, none⟩ v1).setCell ⟨g, 2, none⟩ v2).setCell ⟨g, 3, none⟩ v3).setCell ⟨g, 4, none⟩ v4).setCell ⟨g, 5, none⟩ v5) g t #[v0, v1, v2, v3, v4, v5] := by simpa using h4.set 5 v5
 refine ⟨h5, ?_⟩
 have h : ∀ {w' : World} (i : Nat) (v : Value), Only [g] w w' → Only [g] w (w'.setCell ⟨g, i, none⟩ v) := fun i v ho => ho.setCell (p := ⟨g, i, none⟩) (.inl (by simp)) v
 exact h _ _ (h _ _ (h _ _ (h _ _ (h _ _ (h _ _ (Only.refl _ _))))))
def phasesC : Array Value := #[.func (.func 157) #[] #[], .func (.func 158) #[] #[], .func (.func 159) #[] #[], .func (.func 160) #[] #[], .func (.func 161) #[] #[], .func (.func 162) #[] #[]]
theorem rv_phases (w : World) :
  Calls Tryz.prog 119 #[] w fun r w' => r = .returned (.agg phasesC) ∧ Only [] w w' := by
 have hsf : ∀ (fn : Fn) (a : Addr) (W : World), Sem.run Tryz.prog (store a (.func fn #[] #[])) W = Go.stored Tryz.prog W a (.func fn #[] #[]) .plain := fun fn a W => run_store _ W a _ _ rfl
 go_enter Tryz.func119, Tryz.ntmps119
 go_wp2_with fail
 refine bodyPost_ret (results_cell_row rfl _ _ w.heap.size 231 _ _ _ rfl (Blk.new w 231 _) Tryz.underlying231 rfl (by kernel_rfl)) rfl ⟨rfl, (Only.refl [] w).alloc _⟩
end Go.Proofs.YtlggichakafkiaaGreat
namespace Go.Proofs.YtlggichakafkiaaGreat
open Go.BigFrame Go.RowKit Go.Proofs.FuMem
set_option maxRecDepth 100000
theorem clone_nil_calls (w : World) : Calls Tryz.prog 105 #[.slice none 0 0] w fun e w' => e = .returned (.slice none 0 0) ∧ w = w' := by
 have q : ∀ w, (binOp .eql 38 (.slice none 0 0) (.slice none 0 0)).run Tryz.prog w = .ok (.bool true) w := fun _ => rfl
 go_enter Tryz.func105, Tryz.ntmps105
 go_wp2
 go_ret
 exact ⟨rfl, rfl⟩
theorem clone_nil_pairs (w : World) : Calls Tryz.prog 106 #[.slice none 0 0] w fun e w' => e = .returned (.slice none 0 0) ∧ w = w' := by
 have q : ∀ w, (binOp .eql 48 (.slice none 0 0) (.slice none 0 0)).run Tryz.prog w = .ok (.bool true) w := fun _ => rfl
 go_enter Tryz.func106, Tryz.ntmps106
 go_wp2
 go_ret
 exact ⟨rfl, rfl⟩
theorem clone_nil_bools (w : World) : Calls Tryz.prog 107 #[.slice none 0 0] w fun e w' => e = .returned (.slice none 0 0) ∧ w = w' := by
 have q : ∀ w, (binOp .eql 49 (.slice none 0 0) (.slice none 0 0)).run Tryz.prog w = .ok (.bool true) w := fun _ => rfl
 go_enter Tryz.func107, Tryz.ntmps107
 go_wp2
 go_ret
 exact ⟨rfl, rfl⟩
theorem clone_nil_bytes (w : World) : Calls Tryz.prog 80 #[.slice none 0 0] w fun e w' => e = .returned (.slice none 0 0) ∧ w = w' := by
 have q : ∀ w, (binOp .eql 71 (.slice none 0 0) (.slice none 0 0)).run Tryz.prog w = .ok (.bool true) w := fun _ => rfl
 go_enter Tryz.func80, Tryz.ntmps80
 go_wp2
 go_ret
 exact ⟨rfl, rfl⟩
theorem clone_nil_parts (w : World) : Calls Tryz.prog 115 #[.slice none 0 0] w fun e w' => e = .returned (.slice none 0 0) ∧ w = w' := by
 have q : ∀ w, (binOp .eql 72 (.slice none 0 0) (.slice none 0 0)).run Tryz.prog w = .ok (.bool true) w := fun _ => rfl
 go_enter Tryz.func115, Tryz.ntmps115
 go_wp2
 go_ret
 exact ⟨rfl, rfl⟩
def callC (k : Int) (key val to : ByteArray) : List Value := [.int .i64 k, .string key, .string val, .string to, .slice none 0 0]
def ansC (code : Int) (found : Bool) (val : ByteArray) (ep : Nat) : List Value := [.int .i64 code, .bool found, .string val, .slice none 0 0, .slice none 0 0, .int .u64 ep]
structure Fr where
 k : Int
 key : ByteArray
 val : ByteArray
 to : ByteArray
 ph : Int
 ep : Nat
 pos : ByteArray
 past : Bool
 lev : Int
 had : Bool
 okey : ByteArray
 oid : Nat
 over : Nat
 oline : Int
 ocls : Int
 line : Int
 cls : Int
 piece : Int
 at_ : Int
 code : Int
 found : Bool
 aval : ByteArray
 aep : Nat
def frC (f : Fr) : List Value := [.int .i64 f.k, .string f.key, .string f.val, .string f.to, .slice none 0 0, .int .i64 f.ph, .int .u64 f.ep, .string f.pos, .bool f.past, .int .i64 f.lev, .bool f.had, .string f.okey, .int .u64 f.oid, .int .u64 f.over, .int .i64 f.oline, .int .i64 f.ocls, .int .i64 f.line, .int .i64 f.cls, .int .i64 f.piece, .slice none 0 0, .int .i64 f.at_, .slice none 0 0, .int .i64 f.code, .bool f.found, .string f.aval, .slice none 0 0, .slice none 0 0, .int .u64 f.aep]
theorem one_of {l : List Value} (h : l.all (·.oneCell') = true) : l.toArray.all (·.oneCell') = true := by simpa using h
theorem callC_one (k : Int) (key val to : ByteArray) : (callC k key val to).toArray.all (·.oneCell') = true := one_of rfl
theorem ansC_one (code : Int) (found : Bool) (val : ByteArray) (ep : Nat) : (ansC code found val ep).toArray.all (·.oneCell') = true := one_of rfl
theorem frC_one (f : Fr) : (frC f).toArray.all (·.oneCell') = true := one_of rfl
theorem blk_range {w : World} {g : Nat} {t : TypeId} {cs : Array Value} (h : Blk w g t cs) (off : Nat) (xs : List Value) (hx : ∀ j v, xs[j]? = some v → cs[off + j]? = some v) : w.rangeAt g off xs := fun j v hj => by
 rw [h.cell]
 exact hx j v hj
theorem wpList_load_part {P : Program} {w : World} {ops : Array Oper} {rest : List Oper} {o : Oper} {a : Act} {Q : Exit → Act → World → Prop} (hgd : o.guard = none) (T : TypeId) (x : Operand) (ho : o.op = .load T x) (g off : Nat) (hx : a.eval x = .pointer (some ⟨g, off, none⟩)) (t : TypeId) (cs : Array Value) (hb : Blk w g t cs) (xs : List Value) (hxs : (cs.toList.drop off).take xs.length = xs)
  (d : TypeDesc) (hu : P.underlying T = some d) (hd : d.isRow = true) (hi : (P.info? T).map (·.size) = some xs.length)
  (h : wpList P ops Q rest (a.put o.dst (.agg xs.toArray)) w) : wpList P ops Q (o :: rest) a w :=
 wpList_load_mid hgd T x ho g off hx xs d (blk_range hb off xs fun j v hj => by
  have hjl := (List.getElem?_eq_some_iff.1 hj).1
  rw [← hxs, List.getElem?_take_of_lt hjl, List.getElem?_drop] at hj
  simpa using hj) hu hd hi h
theorem splice_eq {cs ds : Array Value} {off : Nat} {vs : List Value} (h : cs.toList.take off ++ vs ++ cs.toList.drop (off + vs.length) = ds.toList) : FuMem.splice cs off vs = ds := by
 unfold FuMem.splice
 rw [h]
theorem wpList_store_part {P : Program} {w : World} {ops : Array Oper} {rest : List Oper} {o : Oper} {a : Act} {Q : Exit → Act → World → Prop} (hgd : o.guard = none) (T : TypeId) (x y : Operand) (ho : o.op = .store T x y) (g off : Nat) (vs : List Value) (hx : a.eval x = .pointer (some ⟨g, off, none⟩)) (hy : a.eval y = .agg vs.toArray)
  (t : TypeId) (cs : Array Value) (hb : Blk w g t cs) (ds : Array Value) (hds : cs.toList.take off ++ vs ++ cs.toList.drop (off + vs.length) = ds.toList) (hfit : off + vs.length ≤ cs.size) (hi : (P.info? T).map (·.size) = some vs.length) (h1 : vs.toArray.all (·.oneCell') = true)
  (h : ∀ w', Blk w' g t ds → Only [g] w w' → w'.heap.size = w.heap.size → wpList P ops Q rest (a.put o.dst undef) w') : wpList P ops Q (o :: rest) a w :=
 wpList_store_blk hgd T x y ho g off vs.toArray hx hy t cs hb (by simpa using hfit) (by simpa using hi) h1 fun w' hb' ho' hs' => h w' (by
  rw [List.toList_toArray, splice_eq hds] at hb'
  exact hb') ho' hs'
theorem callInfo : (Tryz.prog.info? 40).map (·.size) = some 5 := by kernel_rfl
theorem ansInfo : (Tryz.prog.info? 52).map (·.size) = some 6 := by kernel_rfl
theorem frInfo : (Tryz.prog.info? 74).map (·.size) = some 28 := by kernel_rfl
theorem two_new (w : World) (t u : TypeId) (cs ds : Array Value) : Blk ((w.alloc (.cells cs t)).alloc (.cells ds u)) w.heap.size t cs ∧ Blk ((w.alloc (.cells cs t)).alloc (.cells ds u)) (w.heap.size + 1) u ds ∧ Only [] w ((w.alloc (.cells cs t)).alloc (.cells ds u)) :=
 ⟨(Blk.new w t cs).only ((Only.refl [] _).alloc _) (by simp), by simpa using Blk.new (w.alloc (.cells cs t)) u ds, ((Only.refl [] w).alloc _).alloc _⟩
theorem frames_Call (k : Int) (key val to : ByteArray) (w : World) :
  Calls Tryz.prog 60 #[.agg (callC k key val to).toArray] w fun e w' => e = .returned (.agg (callC k key val to).toArray) ∧ Only [] w w' := by
 obtain ⟨b1, b2, o2⟩ := two_new w 40 40 (callC k key val to).toArray (callC 0 ⟨#[]⟩ ⟨#[]⟩ ⟨#[]⟩).toArray
 unfold callC at *
 have c4 := b1.cell 4
 have f4 := b1.frozen 4
 have B1 := hq9 b1
 have B2 := hq9 b2
 have O2 := hq9 o2
 clear b1 b2 o2
 go_enter Tryz.func60, Tryz.ntmps60
 go_wp2_with fail
 generalize ((w.alloc _).alloc _) = w1 at *
 refine (clone_nil_calls w1).mono ?_
 rintro r w' ⟨rfl, rfl⟩
 go_wp2_with fail
 have HSw2 := hq9 (show Blk (w1.setCell ⟨w.heap.size, 4, none⟩ (.slice none 0 0)) w.heap.size 40 #[.int .i64 k, .string key, .string val, .string to, .slice none 0 0] from B1.out.set 4 (.slice none 0 0))
 have OSw2 := hq9 (O2.out.setCell (p := ⟨w.heap.size, 4, none⟩) (.inr (Nat.le_refl _)) (.slice none 0 0))
 have HTw2 := hq9 (B2.out.only ((Only.refl [w.heap.size] w1).setCell (p := ⟨w.heap.size, 4, none⟩) (.inl (by simp)) (.slice none 0 0)) (by simp))
 generalize (w1.setCell _ _) = w2 at *
 clear c4 f4 B1 B2 O2
 have c4 : w2.cell? ⟨w.heap.size, 4, none⟩ = some (.slice none 0 0) := HSw2.out.cell 4
 go_wp2_with fail
 go_loop [12] (fun i => i = .int .i64 0) (fun _ => 0)
 case atStart => exact rfl
 case round =>
  subst hrel
  go_wp2_with (first | ((with_reducible show wpList _ _ _ (Oper.mk (some 24) _ _ _ _ _ :: _) _ _); refine wpList_load_part rfl 40 (.tmp 1) rfl w.heap.size 0 rfl 40 _ HSw2.out [.int .i64 k, .string key, .string val, .string to, .slice none 0 0] rfl _ Tryz.underlying40 rfl (by kernel_rfl) ?_) | ((with_reducible show wpList _ _ _ (Oper.mk none _ _ _ _ _ :: _) _ _); refine wpList_store_part rfl 40 (.tmp 2) (.tmp 24) rfl (w.heap.size + 1) 0 [.int .i64 k, .string key, .string val, .string to, .slice none 0 0] rfl rfl 40 _ HTw2.out #[.int .i64 k, .string key, .string val, .string to, .slice none 0 0] rfl (by simp) callInfo (callC_one k key val to) ?_; intro w3 hb ho hs; have H_w3 := hq9 hb; have O_w3 := hq9 ho; clear hb ho hs))
  refine bodyPost_ret (results_cell_row rfl _ _ (w.heap.size + 1) 40 _ _ _ rfl H_w3.out Tryz.underlying40 rfl (by kernel_rfl)) rfl ⟨rfl, OSw2.out.trans O_w3.out (by simp)⟩
theorem frames_Answer (code : Int) (found : Bool) (val : ByteArray) (ep : Nat) (w : World) :
  Calls Tryz.prog 61 #[.agg (ansC code found val ep).toArray] w fun e w' => e = .returned (.agg (ansC code found val ep).toArray) ∧ Only [] w w' := by
 obtain ⟨b1, b2, o2⟩ := two_new w 52 52 (ansC code found val ep).toArray (ansC 0 false ⟨#[]⟩ 0).toArray
 unfold ansC at *
 have c3 := b1.cell 3
 have f3 := b1.frozen 3
 have c4 := b1.cell 4
 have f4 := b1.frozen 4
 have B1 := hq9 b1
 have B2 := hq9 b2
 have O2 := hq9 o2
 clear b1 b2 o2
 rw [show ((0 : Nat) : Int) = 0 from rfl] at *
 go_enter Tryz.func61, Tryz.ntmps61
 go_wp2_with fail
 generalize ((w.alloc _).alloc _) = w1 at *
 refine (clone_nil_pairs w1).mono ?_
 rintro r w' ⟨rfl, rfl⟩
 go_wp2_with fail
 have HSw2 := hq9 (show Blk (w1.setCell ⟨w.heap.size, 3, none⟩ (.slice none 0 0)) w.heap.size 52 #[.int .i64 code, .bool found, .string val, .slice none 0 0, .slice none 0 0, .int .u64 ep] from B1.out.set 3 (.slice none 0 0))
 have OSw2 := hq9 (O2.out.setCell (p := ⟨w.heap.size, 3, none⟩) (.inr (Nat.le_refl _)) (.slice none 0 0))
 have HTw2 := hq9 (B2.out.only ((Only.refl [w.heap.size] w1).setCell (p := ⟨w.heap.size, 3, none⟩) (.inl (by simp)) (.slice none 0 0)) (by simp))
 generalize (w1.setCell _ _) = w2 at *
 clear c3 f3 c4 f4 B1 B2 O2
 have c4 : w2.cell? ⟨w.heap.size, 4, none⟩ = some (.slice none 0 0) := HSw2.out.cell 4
 have f4 := HSw2.out.frozen 4
 refine (clone_nil_bools w2).mono ?_
 rintro r w' ⟨rfl, rfl⟩
 have HSw3 := hq9 (show Blk (w2.setCell ⟨w.heap.size, 4, none⟩ (.slice none 0 0)) w.heap.size 52 #[.int .i64 code, .bool found, .string val, .slice none 0 0, .slice none 0 0, .int .u64 ep] from HSw2.out.set 4 (.slice none 0 0))
 have OSw3 := hq9 (OSw2.out.setCell (p := ⟨w.heap.size, 4, none⟩) (.inr (Nat.le_refl _)) (.slice none 0 0))
 have HTw3 := hq9 (HTw2.out.only ((Only.refl [w.heap.size] w2).setCell (p := ⟨w.heap.size, 4, none⟩) (.inl (by simp)) (.slice none 0 0)) (by simp))
 go_wp2_with (first | ((with_reducible show wpList _ _ _ (Oper.mk (some 11) _ _ _ _ _ :: _) _ _); refine wpList_load_part rfl 52 (.tmp 1) rfl w.heap.size 0 rfl 52 _ HSw3.out [.int .i64 code, .bool found, .string val, .slice none 0 0, .slice none 0 0, .int .u64 ep] rfl _ Tryz.underlying52 rfl (by kernel_rfl) ?_) | ((with_reducible show wpList _ _ _ (Oper.mk none _ _ _ _ _ :: _) _ _); refine wpList_store_part rfl 52 (.tmp 2) (.tmp 11) rfl (w.heap.size + 1) 0 [.int .i64 code, .bool found, .string val, .slice none 0 0, .slice none 0 0, .int .u64 ep] rfl rfl 52 _ HTw3.out #[.int .i64 code, .bool found, .string val, .slice none 0 0, .slice none 0 0, .int .u64 ep] rfl (by simp) ansInfo (ansC_one code found val ep) ?_; intro w4 hb ho hs; have H_w4 := hq9 hb; have O_w4 := hq9 ho; clear hb ho hs))
 refine bodyPost_ret (results_cell_row rfl _ _ (w.heap.size + 1) 52 _ _ _ rfl H_w4.out Tryz.underlying52 rfl (by kernel_rfl)) rfl ⟨rfl, OSw3.out.trans O_w4.out (by simp)⟩
set_option maxHeartbeats 2000000 in
theorem frames_Clone (f : Fr) (w : World) :
  Calls Tryz.prog 66 #[.agg (frC f).toArray] w fun e w' => e = .returned (.agg (frC f).toArray) ∧ Only [] w w' := by
 obtain ⟨b1, b2, o2⟩ := two_new w 74 74 (frC f).toArray (frC ⟨0, ⟨#[]⟩, ⟨#[]⟩, ⟨#[]⟩, 0, 0, ⟨#[]⟩, false, 0, false, ⟨#[]⟩, 0, 0, 0, 0, 0, 0, 0, 0, 0, false, ⟨#[]⟩, 0⟩).toArray
 have FOn := hq9 (frC_one f)
 obtain ⟨k, key, val, to, ph, ep, pos, past, lev, had, okey, oid, over, oline, ocls, line, cls, piece, at_, code, found, aval, aep⟩ := f
 unfold frC at *
 dsimp only at *
 rw [show ((0 : Nat) : Int) = 0 from rfl] at b1 b2 o2
 have B1 := hq9 b1
 have B2 := hq9 b2
 have O2 := hq9 o2
 have HC := hq9 (frames_Call k key val to)
 have HA := hq9 (frames_Answer code found aval aep)
 unfold callC ansC at *
 have OC := hq9 (callC_one k key val to)
 have OA := hq9 (ansC_one code found aval aep)
 clear b1 b2 o2
 go_enter Tryz.func66, Tryz.ntmps66
 go_wp2_with ((with_reducible show wpList _ _ _ (Oper.mk (some 4) _ _ _ _ _ :: _) _ _); refine wpList_load_part rfl 40 (.tmp 3) rfl w.heap.size 0 rfl 74 _ B1.out [.int .i64 k, .string key, .string val, .string to, .slice none 0 0] rfl _ Tryz.underlying40 rfl (by kernel_rfl) ?_)
 generalize ((w.alloc _).alloc _) = w1 at *
 refine (HC.out w1).mono ?_
 rintro r w2 ⟨rfl, o⟩
 have P1 := hq9 (B1.out.only o (by simp))
 have P2 := hq9 (B2.out.only o (by simp))
 have O3 := hq9 (O2.out.trans0 o)
 clear o B1 B2 O2
 go_wp2_with ((with_reducible show wpList _ _ _ (Oper.mk none _ _ _ _ _ :: _) _ _); refine wpList_store_part rfl 40 (.tmp 6) (.tmp 5) rfl w.heap.size 0 [.int .i64 k, .string key, .string val, .string to, .slice none 0 0] rfl rfl 74 _ P1.out #[.int .i64 k, .string key, .string val, .string to, .slice none 0 0, .int .i64 ph, .int .u64 ep, .string pos, .bool past, .int .i64 lev, .bool had, .string okey, .int .u64 oid, .int .u64 over, .int .i64 oline, .int .i64 ocls, .int .i64 line, .int .i64 cls, .int .i64 piece, .slice none 0 0, .int .i64 at_, .slice none 0 0, .int .i64 code, .bool found, .string aval, .slice none 0 0, .slice none 0 0, .int .u64 aep] rfl (by simp) callInfo OC.out ?_; intro w3 hb ho hs; have H_w3 := hq9 hb; have O_w3 := hq9 ho; clear hb ho hs; have k19 := H_w3.out.cell 19; have g19 := H_w3.out.frozen 19; have k21 := H_w3.out.cell 21; have g21 := H_w3.out.frozen 21)
 have Q2 := hq9 (P2.out.only O_w3.out (by simp))
 have O4 := hq9 (O3.out.trans O_w3.out (by simp))
 refine (clone_nil_bytes w3).mono ?_
 rintro r w' ⟨rfl, rfl⟩
 go_wp2_with fail
 have HSw4 := hq9 (show Blk (w3.setCell ⟨w.heap.size, 19, none⟩ (.slice none 0 0)) w.heap.size 74 #[.int .i64 k, .string key, .string val, .string to, .slice none 0 0, .int .i64 ph, .int .u64 ep, .string pos, .bool past, .int .i64 lev, .bool had, .string okey, .int .u64 oid, .int .u64 over, .int .i64 oline, .int .i64 ocls, .int .i64 line, .int .i64 cls, .int .i64 piece, .slice none 0 0, .int .i64 at_, .slice none 0 0, .int .i64 code, .bool found, .string aval, .slice none 0 0, .slice none 0 0, .int .u64 aep] from H_w3.out.set 19 (.slice none 0 0))
 have OSw4 := hq9 (O4.out.setCell (p := ⟨w.heap.size, 19, none⟩) (.inr (Nat.le_refl _)) (.slice none 0 0))
 have HTw4 := hq9 (Q2.out.only ((Only.refl [w.heap.size] w3).setCell (p := ⟨w.heap.size, 19, none⟩) (.inl (by simp)) (.slice none 0 0)) (by simp))
 generalize (w3.setCell _ _) = w4 at *
 clear k19 g19 k21 g21 H_w3 O4 Q2
 have k21 : w4.cell? ⟨w.heap.size, 21, none⟩ = some (.slice none 0 0) := HSw4.out.cell 21
 have g21 := HSw4.out.frozen 21
 refine (clone_nil_parts w4).mono ?_
 rintro r w' ⟨rfl, rfl⟩
 have HSw5 := hq9 (show Blk (w4.setCell ⟨w.heap.size, 21, none⟩ (.slice none 0 0)) w.heap.size 74 #[.int .i64 k, .string key, .string val, .string to, .slice none 0 0, .int .i64 ph, .int .u64 ep, .string pos, .bool past, .int .i64 lev, .bool had, .string okey, .int .u64 oid, .int .u64 over, .int .i64 oline, .int .i64 ocls, .int .i64 line, .int .i64 cls, .int .i64 piece, .slice none 0 0, .int .i64 at_, .slice none 0 0, .int .i64 code, .bool found, .string aval, .slice none 0 0, .slice none 0 0, .int .u64 aep] from HSw4.out.set 21 (.slice none 0 0))
 have OSw5 := hq9 (OSw4.out.setCell (p := ⟨w.heap.size, 21, none⟩) (.inr (Nat.le_refl _)) (.slice none 0 0))
 have HTw5 := hq9 (HTw4.out.only ((Only.refl [w.heap.size] w4).setCell (p := ⟨w.heap.size, 21, none⟩) (.inl (by simp)) (.slice none 0 0)) (by simp))
 go_wp2_with ((with_reducible show wpList _ _ _ (Oper.mk (some 16) _ _ _ _ _ :: _) _ _); refine wpList_load_part rfl 52 (.tmp 15) rfl w.heap.size 22 rfl 74 _ HSw5.out [.int .i64 code, .bool found, .string aval, .slice none 0 0, .slice none 0 0, .int .u64 aep] rfl _ Tryz.underlying52 rfl (by kernel_rfl) ?_)
 generalize (w4.setCell _ _) = w5 at *
 refine (HA.out w5).mono ?_
 rintro r w6 ⟨rfl, o⟩
 have P1 := hq9 (HSw5.out.only o (by simp))
 have P2 := hq9 (HTw5.out.only o (by simp))
 have O6 := hq9 (OSw5.out.trans0 o)
 clear o HSw5 HTw5 OSw5 k21 g21
 go_wp2_with (first | ((with_reducible show wpList _ _ _ (Oper.mk none _ _ _ _ _ :: _) _ _); refine wpList_store_part rfl 52 (.tmp 18) (.tmp 17) rfl w.heap.size 22 [.int .i64 code, .bool found, .string aval, .slice none 0 0, .slice none 0 0, .int .u64 aep] rfl rfl 74 _ P1.out #[.int .i64 k, .string key, .string val, .string to, .slice none 0 0, .int .i64 ph, .int .u64 ep, .string pos, .bool past, .int .i64 lev, .bool had, .string okey, .int .u64 oid, .int .u64 over, .int .i64 oline, .int .i64 ocls, .int .i64 line, .int .i64 cls, .int .i64 piece, .slice none 0 0, .int .i64 at_, .slice none 0 0, .int .i64 code, .bool found, .string aval, .slice none 0 0, .slice none 0 0, .int .u64 aep] rfl (by simp) ansInfo OA.out ?_; intro w7 hb ho hs; have H_w7 := hq9 hb; have O_w7 := hq9 ho; clear hb ho hs; have P27 := hq9 (P2.out.only O_w7.out (by simp))) | ((with_reducible show wpList _ _ _ (Oper.mk (some 19) _ _ _ _ _ :: _) _ _); refine wpList_load_part rfl 74 (.tmp 1) rfl w.heap.size 0 rfl 74 _ H_w7.out [.int .i64 k, .string key, .string val, .string to, .slice none 0 0, .int .i64 ph, .int .u64 ep, .string pos, .bool past, .int .i64 lev, .bool had, .string okey, .int .u64 oid, .int .u64 over, .int .i64 oline, .int .i64 ocls, .int .i64 line, .int .i64 cls, .int .i64 piece, .slice none 0 0, .int .i64 at_, .slice none 0 0, .int .i64 code, .bool found, .string aval, .slice none 0 0, .slice none 0 0, .int .u64 aep] rfl _ Tryz.underlying74 rfl (by kernel_rfl) ?_) | ((with_reducible show wpList _ _ _ (Oper.mk none _ _ _ _ _ :: _) _ _); refine wpList_store_part rfl 74 (.tmp 2) (.tmp 19) rfl (w.heap.size + 1) 0 [.int .i64 k, .string key, .string val, .string to, .slice none 0 0, .int .i64 ph, .int .u64 ep, .string pos, .bool past, .int .i64 lev, .bool had, .string okey, .int .u64 oid, .int .u64 over, .int .i64 oline, .int .i64 ocls, .int .i64 line, .int .i64 cls, .int .i64 piece, .slice none 0 0, .int .i64 at_, .slice none 0 0, .int .i64 code, .bool found, .string aval, .slice none 0 0, .slice none 0 0, .int .u64 aep] rfl rfl 74 _ P27.out #[.int .i64 k, .string key, .string val, .string to, .slice none 0 0, .int .i64 ph, .int .u64 ep, .string pos, .bool past, .int .i64 lev, .bool had, .string okey, .int .u64 oid, .int .u64 over, .int .i64 oline, .int .i64 ocls, .int .i64 line, .int .i64 cls, .int .i64 piece, .slice none 0 0, .int .i64 at_, .slice none 0 0, .int .i64 code, .bool found, .string aval, .slice none 0 0, .slice none 0 0, .int .u64 aep] rfl (by simp) frInfo FOn.out ?_; intro w8 hb ho hs; have H_w8 := hq9 hb; have O_w8 := hq9 ho; clear hb ho hs))
 refine bodyPost_ret (results_cell_row rfl _ _ (w.heap.size + 1) 74 _ _ _ rfl H_w8.out Tryz.underlying74 rfl (by kernel_rfl)) rfl ⟨rfl, (O6.out.trans O_w7.out (by simp)).trans O_w8.out (by simp)⟩
end Go.Proofs.YtlggichakafkiaaGreat