/- A recovery: the next block of which something holds is scrubbed. (printed by gen-wipe.py) -/
import Derived.Tactics
import Derived.Tactics2
import Derived.Defers
import Derived.Laws.Pointers
import Derived.Laws.LoneSync
import Derived.RegionTactic
import Derived.RegionCalls
import Derived.ChangeAlike
import Derived.Sort.LotA
import Derived.Shelf.SlSortCmp.KitK
import Derived.Sort.WalkB2
import Derived.Sort.WalkB12
import Derived.Deep.LoopGhost
import Derived.Test.YtlggichakafkiaaGreatGTopHostile1
import Derived.Test.YtlggichakafkiaaGreatGTopHostile2
import Derived.Test.YtlggichakafkiaaGreatGTopHostile3
import Derived.Test.YtlggichakafkiaaGreatGTopHostile4
import Derived.Test.YtlggichakafkiaaGreatGTopHostile5
import Derived.Test.YtlggichakafkiaaGreatGTopHostile6
import Derived.Test.YtlggichakafkiaaGreatGTopHostile7
set_option linter.unusedSimpArgs false
set_option linter.unusedVariables false
namespace Go.Proofs.YtlggichakafkiaaGreat
open Go.BigFrame Go.RowKit Go.Proofs.FuMem Go.Proofs.FuTop Go.Proofs.FuNvm Go.Proofs.FuCode Go.Proofs.FuBlock Go.Proofs.FuClass
set_option maxRecDepth 100000
def cellNat (w : World) (a : Addr) : Nat := match w.cell? a with
 | some (.int _ i) => i.toNat
 | _ => 0
theorem cellNat_of {w : World} {a : Addr} {k : IntKind} {i : Nat} (h : w.cell? a = some (.int k i)) : cellNat w a = i := by
 unfold cellNat
 rw [h]
 rfl
theorem nextAt_hit {p : FuTop.Found → Bool} {F : List FuTop.Found} {i : Nat} {x : FuTop.Found} (h : F[i]? = some x) (hp : p x = true) : nextAt p F i = some i := by
 obtain ⟨hi, hx⟩ := List.getElem?_eq_some_iff.1 h
 rw [nextAt, dif_pos hi, hx, if_pos hp]
theorem nextAt_miss {p : FuTop.Found → Bool} {F : List FuTop.Found} {i : Nat} {x : FuTop.Found} (h : F[i]? = some x) (hp : p x = false) : nextAt p F i = nextAt p F (i + 1) := by
 obtain ⟨hi, hx⟩ := List.getElem?_eq_some_iff.1 h
 rw [nextAt, dif_pos hi, hx, if_neg (by rw [hp]; decide)]
theorem nextAt_end {p : FuTop.Found → Bool} {F : List FuTop.Found} {i : Nat} (h : F.length ≤ i) : nextAt p F i = none := by
 rw [nextAt, dif_neg (by omega)]
theorem draftOf_le (c : Int) : (draftOf c).length ≤ 64 := by
 unfold draftOf
 split
 ·simp
 ·unfold linesTo
  rw [laid_length]
  exact Nat.le_refl _
def scrubD (D : Dev) (x : FuTop.Found) : Dev := flush1 (store1 D x.line 0 (draftOf x.b.cls)) x.line
def WipeAns (g gd cb cap e : Nat) (ph q : Int) (p : FuTop.Found → Bool) (F : List FuTop.Found) (nx : Nat) (fv kv sv : Value) (done why : Int) (D : Dev) (w' : World) : Prop := match nextAt p F nx with
 | some j => ∃ x, F[j]? = some x ∧ p x = true ∧ Blk w' g 229 (rvHead gd ph e ((j + 1 : Nat) : Int) fv kv done sv why) ∧ DevAt w' gd cb cap (scrubD D x)
 | none => Blk w' g 229 (rvHead gd q e 0 fv kv done sv why) ∧ DevAt w' gd cb cap (fenceD D)
theorem WipeAns.hit {g gd cb cap e : Nat} {ph q : Int} {p : FuTop.Found → Bool} {F : List FuTop.Found} {nx j : Nat} {fv kv sv : Value} {done why : Int} {D : Dev} {w' : World} {x : FuTop.Found} (h : nextAt p F nx = some j) (hx : F[j]? = some x) (hp : p x = true) (hb : Blk w' g 229 (rvHead gd ph e ((j + 1 : Nat) : Int) fv kv done sv why)) (hd : DevAt w' gd cb cap (scrubD D x)) : WipeAns g gd cb cap e ph q p F nx fv kv sv done why D w' := by
 unfold WipeAns
 rw [h]
 exact ⟨x, hx, hp, hb, hd⟩
theorem WipeAns.miss {g gd cb cap e : Nat} {ph q : Int} {p : FuTop.Found → Bool} {F : List FuTop.Found} {nx : Nat} {fv kv sv : Value} {done why : Int} {D : Dev} {w' : World} (h : nextAt p F nx = none) (hb : Blk w' g 229 (rvHead gd q e 0 fv kv done sv why)) (hd : DevAt w' gd cb cap (fenceD D)) : WipeAns g gd cb cap e ph q p F nx fv kv sv done why D w' := by
 unfold WipeAns
 rw [h]
 exact ⟨hb, hd⟩
set_option maxHeartbeats 1600000 in
theorem rv_scrub1 (b1 g e : Nat) (v : Value) (L : List FuTop.Found) (x : FuTop.Found) (cs : Array Value) (w : World) (h1 : Blk w b1 124 #[.pointer (some ⟨g, 0, none⟩)]) (hb : Blk w g 229 cs) (he : cs[3]? = some (.int .u64 e)) (hf : cs[5]? = some v) (hr : RowS 339 9 w v (L.map foundC)) (hn : L.length ≤ 100000) :
  Calls Tryz.prog 200 #[foundV x, .pointer (some ⟨b1, 0, none⟩)] w fun r w' => r = .returned (.bool (toScrub e L x)) ∧ Only [] w w' := by
 have HA := hq9 (fun w hb => rv_anti g e x cs w hb he)
 have HK := hq9 (fun w hb hr => rv_keeps g e v L x cs w hb he hf hr hn)
 have HT := hq9 (show toScrub e L x = (!anti e x && !keeps e L x) from rfl)
 generalize toScrub e L x = tt at *
 generalize anti e x = an at *
 generalize keeps e L x = kp at *
 have HB := hq9 hb
 have HR := hq9 hr
 unfold foundV at HA HK ⊢
 generalize (⟨x.b.key.toArray⟩ : ByteArray) = kb at *
 generalize (⟨x.b.val.toArray⟩ : ByteArray) = vb at *
 have BX := hq9 (Blk.new w 339 #[.int .i64 x.line, .bool x.good, .int .i64 x.b.cls, .int .i64 x.b.kind, .int .u64 x.b.id, .int .u64 x.b.ver, .int .u64 x.b.ep, .string kb, .string vb])
 have OX := hq9 ((Only.refl [] w).alloc (.cells #[.int .i64 x.line, .bool x.good, .int .i64 x.b.cls, .int .i64 x.b.kind, .int .u64 x.b.id, .int .u64 x.b.ver, .int .u64 x.b.ep, .string kb, .string vb] 339))
 have H1 := hq9 (h1.only OX.out (by simp))
 have r0 := H1.out.cell 0
 have x0 := BX.out.cell 0
 have x1 := BX.out.cell 1
 have x2 := BX.out.cell 2
 have x3 := BX.out.cell 3
 have x4 := BX.out.cell 4
 have x5 := BX.out.cell 5
 have x6 := BX.out.cell 6
 have x7 := BX.out.cell 7
 have x8 := BX.out.cell 8
 clear h1 hb hf hr he
 cases an with
 | true =>
  obtain rfl : tt = false := by rw [HT.out]; rfl
  go_enter Tryz.func200, Tryz.ntmps200
  go_wp2_with fail
  generalize (w.alloc _) = w1 at *
  refine (HA.out w1 (HB.out.only OX.out (by simp))).mono ?_
  rintro r w2 ⟨rfl, o2⟩
  have O2 := hq9 (OX.out.trans0 o2)
  clear o2
  go_wp2
  go_ret
  exact ⟨rfl, O2.out⟩
 | false =>
  obtain rfl : tt = !kp := by rw [HT.out]; rfl
  go_enter Tryz.func200, Tryz.ntmps200
  go_wp2_with fail
  generalize (w.alloc _) = w1 at *
  refine (HA.out w1 (HB.out.only OX.out (by simp))).mono ?_
  rintro r w2 ⟨rfl, o2⟩
  have O2 := hq9 (OX.out.trans0 o2)
  have B2 := hq9 (BX.out.only o2 (by simp))
  have R2 := hq9 (H1.out.only o2 (by simp))
  clear o2 r0 x0 x1 x2 x3 x4 x5 x6 x7 x8
  have r0 := R2.out.cell 0
  have x0 := B2.out.cell 0
  have x1 := B2.out.cell 1
  have x2 := B2.out.cell 2
  have x3 := B2.out.cell 3
  have x4 := B2.out.cell 4
  have x5 := B2.out.cell 5
  have x6 := B2.out.cell 6
  have x7 := B2.out.cell 7
  have x8 := B2.out.cell 8
  go_wp2_with fail
  refine (HK.out w2 (HB.out.only O2.out (by simp)) (HR.out.only0 O2.out)).mono ?_
  rintro r w3 ⟨rfl, o3⟩
  have O3 := hq9 (O2.out.trans0 o3)
  clear o3
  go_wp2
  go_ret
  exact ⟨rfl, O3.out⟩
set_option maxHeartbeats 4000000 in
theorem rv_wipe_scrub (b1 g gd cb cap e nx : Nat) (ph q : Int) (fv kv sv : Value) (done why : Int) (F : List FuTop.Found) (D : Dev) (w : World) (hb : Blk w g 229 (rvHead gd ph e nx fv kv done sv why)) (hr : RowS 339 9 w fv (F.map foundC)) (hd : DevAt w gd cb cap D) (h1 : Blk w b1 124 #[.pointer (some ⟨g, 0, none⟩)]) (hb1 : b1 ≠ g)
  (hne : ∀ b, fv.ownBlock = some b → b ≠ g ∧ b ≠ gd ∧ b ≠ cb) (hgd : g ≠ gd ∧ g ≠ cb) (hn : F.length ≤ 1000) (hF : ∀ x ∈ F, Bd x ∧ x.line < D.lines.length) (hnx : nx ≤ F.length) :
  Calls Tryz.prog 199 #[.pointer (some ⟨g, 0, none⟩), .func (.func 200) #[] #[.pointer (some ⟨b1, 0, none⟩)], .int .i64 q] w fun r w' => r = .returned (.int .i64 0) ∧ WipeAns g gd cb cap e ph q (toScrub e F) F nx fv kv sv done why D w' ∧ Only [g, gd, cb] w w' := by
 have HB := hq9 hb
 have HR := hq9 hr
 have HD := hq9 hd
 have HFF := hq9 hF
 have HNE := hq9 (And.intro hne hgd)
 have H1 := hq9 (And.intro h1 hb1)
 have HQ := hq9 (fun x cs w h1 hb he hf hr => rv_scrub1 b1 g e fv F x cs w h1 hb he hf hr (by omega))
 obtain ⟨A, c, hfv, _, _⟩ := hr.slice
 obtain ⟨m, hm⟩ : ∃ m, m = F.length := ⟨_, rfl⟩
 rw [List.length_map, ← hm] at hfv
 rw [← hm] at hnx hn
 have HFV := hq9 hfv
 have HM := hq9 hm
 generalize hp : toScrub e F = pr at *
 have HDR := hq9 (fun c w hc => block_Draft c w hc)
 have HFE := hq9 (fun w hd => nvm_Fence gd cb cap D w hd)
 clear hb hr hd hF hne hgd hfv hm hp h1 hb1
 go_enter Tryz.func199, Tryz.ntmps199
 go_wp2_with fail
 go_loopw [7] (fun _ wr => ∃ i : Nat, i ≤ m ∧ Blk wr g 229 (rvHead gd ph e i fv kv done sv why) ∧ nextAt pr F i = nextAt pr F nx ∧ Only [g] w wr) (fun _ wr => m - cellNat wr ⟨g, 4, none⟩)
 case atStart => exact ⟨nx, hnx, HB.out, rfl, Only.refl _ _⟩
 case round =>
  obtain ⟨i, hin, hb, hx, ho⟩ := hrel
  have BI := hq9 hb
  have NX := hq9 hx
  have ON := hq9 ho
  have RI := hq9 (HR.out.only ho (fun b hb h => by simp at h; exact (HNE.out.1 b hb).1 h))
  have MS := hq9 (show cellNat wr ⟨g, 4, none⟩ = i from cellNat_of (hb.cell 4))
  clear hb hx ho
  have c4 : wr.cell? ⟨g, 4, none⟩ = some (.int .i64 i) := BI.out.cell 4
  have c5 : wr.cell? ⟨g, 5, none⟩ = some (.slice A m c) := by rw [← HFV.out]; exact BI.out.cell 5
  by_cases hlt : i < m
  ·have q1 : decide ((i : Int) < (m : Int)) = true := by go_num
   have hiL : i < F.length := by have := HM.out; omega
   obtain ⟨x, hx⟩ : ∃ x, F[i]? = some x := ⟨_, List.getElem?_eq_getElem hiL⟩
   have hrr := RI.out
   rw [HFV.out] at hrr
   obtain ⟨bg, rfl, _⟩ := row_found hrr hx
   clear hrr
   have HXX := hq9 hx
   obtain ⟨kb, hkb⟩ : ∃ kb, kb = (⟨x.b.key.toArray⟩ : ByteArray) := ⟨_, rfl⟩
   obtain ⟨vb, hvb⟩ : ∃ vb, vb = (⟨x.b.val.toArray⟩ : ByteArray) := ⟨_, rfl⟩
   have HV := hq9 (show foundV x = .agg #[.int .i64 x.line, .bool x.good, .int .i64 x.b.cls, .int .i64 x.b.kind, .int .u64 x.b.id, .int .u64 x.b.ver, .int .u64 x.b.ep, .string kb, .string vb] by rw [hkb, hvb]; rfl)
   have HSS := hq9 (show ∀ W, Blk W g 229 (rvHead gd ph e i fv kv done sv why) → RowS 339 9 W fv (F.map foundC) → (W.cell? ⟨g, 4, none⟩ = some (.int .i64 i) ∧ W.cell? ⟨g, 5, none⟩ = some (.slice (some ⟨bg, 0, none⟩) m c) ∧ W.cell? ⟨bg, i * 9, none⟩ = some (.int .i64 x.line) ∧ W.cell? ⟨bg, i * 9 + 1, none⟩ = some (.bool x.good) ∧ W.cell? ⟨bg, i * 9 + 2, none⟩ = some (.int .i64 x.b.cls) ∧ W.cell? ⟨bg, i * 9 + 3, none⟩ = some (.int .i64 x.b.kind) ∧ W.cell? ⟨bg, i * 9 + 4, none⟩ = some (.int .u64 x.b.id) ∧ W.cell? ⟨bg, i * 9 + 5, none⟩ = some (.int .u64 x.b.ver) ∧ W.cell? ⟨bg, i * 9 + 6, none⟩ = some (.int .u64 x.b.ep) ∧ W.cell? ⟨bg, i * 9 + 7, none⟩ = some (.string kb) ∧ W.cell? ⟨bg, i * 9 + 8, none⟩ = some (.string vb)) from fun W hb hr => by
    rw [HFV.out] at hr
    obtain ⟨bg', hbg, e0, e1, e2, e3, e4, e5, e6, e7, e8⟩ := row_found hr HXX.out
    rw [← hkb] at e7
    rw [← hvb] at e8
    have : bg = bg' := by injection hbg with h; injection h
    subst this
    exact ⟨hb.cell 4, (show W.cell? ⟨g, 5, none⟩ = some fv from hb.cell 5).trans (by rw [HFV.out]), e0, e1, e2, e3, e4, e5, e6, e7, e8⟩)
   clear hkb hvb
   have HBD := hq9 (HFF.out x (List.mem_of_getElem? hx))
   clear hx
   go_wp2_with fail
   refine wp_region_later wr (by kernel_rfl) (by kernel_rfl) ?_
   have d4 := fun (p : Later wr) => Later.cell p c4
   have d5 := fun (p : Later wr) => Later.cell p c5
   clear c4 c5
   repeat (go_big_quiet_step (fail))
   repeat (go_big_quiet_step (fail))
   refine wpQuiet_nil ?_
   intro _ hw'
   obtain ⟨p, hw''⟩ := hw'
   subst hw''
   have opw := p.only
   clear d4 d5
   generalize p.w = w1 at *
   have B1 := hq9 (BI.out.only opw (by simp))
   have R1 := hq9 (RI.out.only0 opw)
   have O1 := hq9 (ON.out.trans0 opw)
   clear opw
   have s0 := HSS.out w1.drew (Blk.drew B1.out) (R1.out.only0 (Only.refl [] w1).drew)
   have oa := ((Only.refl [] w1).alloc (.cells #[.int .i64 0, .bool false, .int .i64 0, .int .i64 0, .int .u64 0, .int .u64 0, .int .u64 0, .string ⟨#[]⟩, .string ⟨#[]⟩] 339)).drew
   have hA := HSS.out _ (B1.out.only oa (by simp)) (R1.out.only0 oa)
   have ob := ((Only.refl [] w1).alloc (.cells #[.int .i64 x.line, .bool x.good, .int .i64 x.b.cls, .int .i64 x.b.kind, .int .u64 x.b.id, .int .u64 x.b.ver, .int .u64 x.b.ep, .string kb, .string vb] 339)).drew
   have XG := hq9 B1.out.lt
   have XLE := hq9 O1.out.size
   have B2 := hq9 (B1.out.only ob (by simp))
   have R2 := hq9 (R1.out.only0 ob)
   have O2 := hq9 (O1.out.trans0 ob)
   have hW := HSS.out _ B2.out R2.out
   have FB := hq9 (show Blk (w1.alloc (.cells #[.int .i64 x.line, .bool x.good, .int .i64 x.b.cls, .int .i64 x.b.kind, .int .u64 x.b.id, .int .u64 x.b.ver, .int .u64 x.b.ep, .string kb, .string vb] 339)).drew w1.heap.size 339 #[.int .i64 x.line, .bool x.good, .int .i64 x.b.cls, .int .i64 x.b.kind, .int .u64 x.b.id, .int .u64 x.b.ver, .int .u64 x.b.ep, .string kb, .string vb] from Blk.drew (Blk.new w1 339 #[.int .i64 x.line, .bool x.good, .int .i64 x.b.cls, .int .i64 x.b.kind, .int .u64 x.b.id, .int .u64 x.b.ver, .int .u64 x.b.ep, .string kb, .string vb]))
   clear oa ob
   go_wp2_with fail
   go_region_held3 (fun w' => w'.cell? ⟨g, 4, none⟩ = some (.int .i64 i) ∧ w'.cell? ⟨g, 5, none⟩ = some (.slice (some ⟨bg, 0, none⟩) m c) ∧ w'.cell? ⟨bg, i * 9, none⟩ = some (.int .i64 x.line) ∧ w'.cell? ⟨bg, i * 9 + 1, none⟩ = some (.bool x.good) ∧ w'.cell? ⟨bg, i * 9 + 2, none⟩ = some (.int .i64 x.b.cls) ∧ w'.cell? ⟨bg, i * 9 + 3, none⟩ = some (.int .i64 x.b.kind) ∧ w'.cell? ⟨bg, i * 9 + 4, none⟩ = some (.int .u64 x.b.id) ∧ w'.cell? ⟨bg, i * 9 + 5, none⟩ = some (.int .u64 x.b.ver) ∧ w'.cell? ⟨bg, i * 9 + 6, none⟩ = some (.int .u64 x.b.ep) ∧ w'.cell? ⟨bg, i * 9 + 7, none⟩ = some (.string kb) ∧ w'.cell? ⟨bg, i * 9 + 8, none⟩ = some (.string vb)) (first | (with_reducible assumption) | (with_reducible exact s0) | (with_reducible exact hA) | (with_reducible exact hW) | go_keep) (first | fail)
   clear s0 hA hW
   generalize (w1.alloc (.cells #[.int .i64 x.line, .bool x.good, .int .i64 x.b.cls, .int .i64 x.b.kind, .int .u64 x.b.id, .int .u64 x.b.ver, .int .u64 x.b.ep, .string kb, .string vb] 339)).drew = w2 at *
   generalize w1.heap.size = xb at *
   have c4 : w2.cell? ⟨g, 4, none⟩ = some (.int .i64 i) := B2.out.cell 4
   have f4 := B2.out.frozen 4
   have hwr : IntKind.i64.wrap ((i : Int) + 1) = (i : Int) + 1 := by rw [IntKind.wrap_i64]; omega
   have XLT := hq9 (show w.heap.size ≤ xb from XLE.out)
   have hxg : xb ≠ g := fun e => by have := XG.out; omega
   have BN := hq9 (show Blk (w2.setCell ⟨g, 4, none⟩ (.int .i64 ((i : Int) + 1))) g 229 (rvHead gd ph e ((i + 1 : Nat) : Int) fv kv done sv why) from by
    have := B2.out.set 4 (.int .i64 ((i : Int) + 1))
    rw [show ((i + 1 : Nat) : Int) = (i : Int) + 1 by omega]
    exact this)
   have on := (Only.refl [g] w2).setCell (p := ⟨g, 4, none⟩) (.inl (by simp)) (.int .i64 ((i : Int) + 1))
   have RN := hq9 (R2.out.only on (fun b hb h => by simp at h; exact (HNE.out.1 b hb).1 h))
   have XN := hq9 (FB.out.only on (by simpa using hxg))
   have ON2 := hq9 (O2.out.trans on (fun b hb => .inl hb))
   clear on
   have z0 := XN.out.cell 0
   have z1 := XN.out.cell 1
   have z2 := XN.out.cell 2
   have z3 := XN.out.cell 3
   have z4 := XN.out.cell 4
   have z5 := XN.out.cell 5
   have z6 := XN.out.cell 6
   have z7 := XN.out.cell 7
   have z8 := XN.out.cell 8
   go_wp2_with fail
   generalize (w2.setCell ⟨g, 4, none⟩ (.int .i64 ((i : Int) + 1))) = w3 at *
   have HC := HQ.out x _ w3 (H1.out.1.only ON2.out (by simpa using H1.out.2)) BN.out rfl rfl RN.out
   rw [HV.out] at HC
   obtain ⟨pb, hpb⟩ : ∃ b, b = pr x := ⟨_, rfl⟩
   rw [← hpb] at HC
   have HPB := hq9 hpb
   clear hpb c4 f4
   refine HC.mono ?_
   clear HC
   rintro r w4 ⟨rfl, o4⟩
   have B4 := hq9 (BN.out.only o4 (by simp))
   have X4 := hq9 (XN.out.only o4 (by simp))
   have O4 := hq9 (ON2.out.trans0 o4)
   clear o4 z0 z1 z2 z3 z4 z5 z6 z7 z8
   cases pb with
   | false =>
    go_wp2
    go_roundw
    case rel => exact ⟨i + 1, by omega, B4.out, (nextAt_miss HXX.out HPB.out.symm).symm.trans NX.out, O4.out⟩
    case measure =>
     have h4 : cellNat w4 ⟨g, 4, none⟩ = i + 1 := cellNat_of (B4.out.cell 4)
     rw [h4, MS.out]
     omega
   | true =>
    have D4 := hq9 (HD.out.only O4.out (by simpa using fun h => HNE.out.2.1 h.symm) (by simpa using fun h => HNE.out.2.2 h.symm))
    obtain ⟨dl, hdl⟩ : ∃ dl, dl = draftOf x.b.cls := ⟨_, rfl⟩
    have HSC := hq9 (show scrubD D x = flush1 (store1 D x.line 0 dl) x.line from by rw [hdl]; rfl)
    have HD1 := hq9 (fun W => HDR.out x.b.cls W ⟨by have := HBD.out.1.c0; omega, by have := HBD.out.1.c3; omega⟩)
    rw [← hdl] at HD1
    have HDL := hq9 (show dl.length ≤ maxLen from by rw [hdl]; unfold maxLen; exact Nat.le_trans (draftOf_le _) (by decide))
    clear hdl
    have hxd : xb ≠ gd ∧ xb ≠ cb := ⟨fun e => by have := XLT.out; have := HD.out.lt1; omega, fun e => by have := XLT.out; have := HD.out.lt2; omega⟩
    have HXD := hq9 hxd
    have HS3 := hq9 (show ∀ W, Blk W g 229 (rvHead gd ph e ((i + 1 : Nat) : Int) fv kv done sv why) → Blk W xb 339 #[.int .i64 x.line, .bool x.good, .int .i64 x.b.cls, .int .i64 x.b.kind, .int .u64 x.b.id, .int .u64 x.b.ver, .int .u64 x.b.ep, .string kb, .string vb] → W.cell? ⟨g, 0, none⟩ = some (.pointer (some ⟨gd, 0, none⟩)) ∧ W.cell? ⟨xb, 0, none⟩ = some (.int .i64 x.line) ∧ W.cell? ⟨xb, 2, none⟩ = some (.int .i64 x.b.cls) from fun W h1 h2 => ⟨h1.cell 0, h2.cell 0, h2.cell 2⟩)
    have HNG : Hid (g ∉ [gd, cb] ∧ xb ∉ [gd, cb]) := ⟨by simp [HNE.out.2.1, HNE.out.2.2], by simp [hxd.1, hxd.2]⟩
    have s4 := HS3.out w4.drew (Blk.drew B4.out) (Blk.drew X4.out)
    have HE5 := hq9 (show ∀ W, Only [] w4 W → DevAt W gd cb cap D ∧ Blk W g 229 (rvHead gd ph e ((i + 1 : Nat) : Int) fv kv done sv why) ∧ Blk W xb 339 #[.int .i64 x.line, .bool x.good, .int .i64 x.b.cls, .int .i64 x.b.kind, .int .u64 x.b.id, .int .u64 x.b.ver, .int .u64 x.b.ep, .string kb, .string vb] from fun W o => ⟨D4.out.only0 o, B4.out.only o (by simp), X4.out.only o (by simp)⟩)
    clear hxd
    go_wp2_with fail
    go_region_held3 (fun w' => w'.cell? ⟨g, 0, none⟩ = some (.pointer (some ⟨gd, 0, none⟩)) ∧ w'.cell? ⟨xb, 0, none⟩ = some (.int .i64 x.line) ∧ w'.cell? ⟨xb, 2, none⟩ = some (.int .i64 x.b.cls))
     (first | (with_reducible assumption) | (with_reducible exact s4) | (with_reducible exact s5) | (with_reducible exact s6) | go_keep)
     (first
      | (go_at_call 247; refine (HD1.out _).mono ?_; rintro r w5 ⟨v5, rfl, hv5⟩; obtain ⟨A5, c5, rfl, hb5, _, o5⟩ := madeB_bs hv5; have BS5 := hq9 hb5; have O5 := hq9 ((Only.refl [] w4).drew.trans0 o5); have s5 := HS3.out w5 (HE5.out w5 O5.out).2.1 (HE5.out w5 O5.out).2.2; clear hv5 hb5 o5)
      | (go_at_call 33; refine (nvm_Store_any gd cb cap D x.line 0 A5 dl.length c5 dl w5 (HE5.out w5 O5.out).1 BS5.out HDL.out).mono ?_; rintro r w6 ⟨rfl, d6, o6⟩; have D6 := hq9 d6; have B6 := hq9 ((HE5.out w5 O5.out).2.1.only o6 HNG.out.1); have X6 := hq9 ((HE5.out w5 O5.out).2.2.only o6 HNG.out.2); have O6 := hq9 (((O4.out.trans0 O5.out).mono (T := [g, gd, cb]) (by simp)).trans o6 (fun b hb => .inl (List.mem_cons_of_mem _ hb))); have s6 := HS3.out w6 B6.out X6.out; clear d6 o6))
    clear s4 s5 s6
    have t6 : w6.drew.cell? ⟨g, 0, none⟩ = some (.pointer (some ⟨gd, 0, none⟩)) ∧ w6.drew.cell? ⟨xb, 0, none⟩ = some (.int .i64 x.line) := ⟨(Blk.drew B6.out).cell 0, (Blk.drew X6.out).cell 0⟩
    go_wp2_with fail
    go_region_held3 (fun w' => w'.cell? ⟨g, 0, none⟩ = some (.pointer (some ⟨gd, 0, none⟩)) ∧ w'.cell? ⟨xb, 0, none⟩ = some (.int .i64 x.line))
     (first | (with_reducible assumption) | (with_reducible exact t6) | (with_reducible exact t7) | go_keep)
     (first
      | (go_at_call 178; refine (nvm_Flush_any gd cb cap (store1 D x.line 0 dl) x.line w6.drew (D6.out.only0 (Only.refl [] w6).drew)).mono ?_; rintro r w7 ⟨rfl, d7, o7⟩; have D7 := hq9 d7; have B7 := hq9 ((Blk.drew B6.out).only o7 HNG.out.1); have O7 := hq9 ((O6.out.trans0 (Only.refl [] w6).drew).trans o7 (fun b hb => .inl (List.mem_cons_of_mem _ hb))); have t7 : w7.cell? ⟨g, 0, none⟩ = some (.pointer (some ⟨gd, 0, none⟩)) ∧ w7.cell? ⟨xb, 0, none⟩ = some (.int .i64 x.line) := ⟨B7.out.cell 0, ((Blk.drew X6.out).only o7 HNG.out.2).cell 0⟩; clear d7 o7))
    clear t6 t7
    go_wp2
    go_ret
    exact ⟨rfl, WipeAns.hit (NX.out.symm.trans (nextAt_hit HXX.out HPB.out.symm)) HXX.out HPB.out.symm B7.out (by rw [HSC.out]; exact D7.out), O7.out⟩
  ·have q1 : decide ((i : Int) < (m : Int)) = false := by go_num
   have HEND := hq9 (nextAt_end (p := pr) (F := F) (i := i) (by have := HM.out; omega))
   go_wp2_with fail
   refine wp_region_later wr (by kernel_rfl) (by kernel_rfl) ?_
   have d4 := fun (p : Later wr) => Later.cell p c4
   have d5 := fun (p : Later wr) => Later.cell p c5
   clear c4 c5
   repeat (go_big_quiet_step (fail))
   repeat (go_big_quiet_step (fail))
   refine wpQuiet_nil ?_
   intro _ hw'
   obtain ⟨p, hw''⟩ := hw'
   subst hw''
   have opw := p.only
   clear d4 d5
   generalize p.w = w1 at *
   have B1 := hq9 (BI.out.only opw (by simp))
   have O1 := hq9 (ON.out.trans0 opw)
   clear opw
   have D1 := hq9 (HD.out.only O1.out (by simpa using fun h => HNE.out.2.1 h.symm) (by simpa using fun h => HNE.out.2.2 h.symm))
   have c0 : w1.cell? ⟨g, 0, none⟩ = some (.pointer (some ⟨gd, 0, none⟩)) := B1.out.cell 0
   go_wp2_with fail
   refine (HFE.out w1 D1.out).mono ?_
   rintro r w2 ⟨rfl, d2, o2⟩
   have B2 := hq9 (B1.out.only o2 (by simp [HNE.out.2.1, HNE.out.2.2]))
   have D2 := hq9 d2
   have O2 := hq9 ((O1.out.mono (T := [g, gd, cb]) (by simp)).trans o2 (fun b hb => .inl (List.mem_cons_of_mem _ hb)))
   clear d2 o2 c0
   go_wp2_with fail
   refine (rv_to g gd ph q e i fv kv done sv why w2 B2.out).mono ?_
   rintro r w3 ⟨rfl, b3, o3⟩
   have B3 := hq9 b3
   have D3 := hq9 (D2.out.only o3 (by simpa using fun h => HNE.out.2.1 h.symm) (by simpa using fun h => HNE.out.2.2 h.symm))
   have O3 := hq9 (O2.out.trans o3 (fun b hb => .inl (by simp at hb; simp [hb])))
   clear b3 o3
   go_wp2
   go_ret
   exact ⟨rfl, WipeAns.miss (NX.out.symm.trans HEND.out) B3.out D3.out, O3.out⟩
set_option maxHeartbeats 4000000 in
theorem rv_wipe_anti (g gd cb cap e nx : Nat) (ph q : Int) (fv kv sv : Value) (done why : Int) (F : List FuTop.Found) (D : Dev) (w : World) (hb : Blk w g 229 (rvHead gd ph e nx fv kv done sv why)) (hr : RowS 339 9 w fv (F.map foundC)) (hd : DevAt w gd cb cap D)
  (hne : ∀ b, fv.ownBlock = some b → b ≠ g ∧ b ≠ gd ∧ b ≠ cb) (hgd : g ≠ gd ∧ g ≠ cb) (hn : F.length ≤ 1000) (hF : ∀ x ∈ F, Bd x ∧ x.line < D.lines.length) (hnx : nx ≤ F.length) :
  Calls Tryz.prog 199 #[.pointer (some ⟨g, 0, none⟩), .func (.func 201) #[.pointer (some ⟨g, 0, none⟩)] #[], .int .i64 q] w fun r w' => r = .returned (.int .i64 0) ∧ WipeAns g gd cb cap e ph q (anti e) F nx fv kv sv done why D w' ∧ Only [g, gd, cb] w w' := by
 have HB := hq9 hb
 have HR := hq9 hr
 have HD := hq9 hd
 have HFF := hq9 hF
 have HNE := hq9 (And.intro hne hgd)
 have HQ := hq9 (fun x cs w hb he => rv_anti g e x cs w hb he)
 obtain ⟨A, c, hfv, _, _⟩ := hr.slice
 obtain ⟨m, hm⟩ : ∃ m, m = F.length := ⟨_, rfl⟩
 rw [List.length_map, ← hm] at hfv
 rw [← hm] at hnx hn
 have HFV := hq9 hfv
 have HM := hq9 hm
 generalize hp : anti e = pr at *
 have HDR := hq9 (fun c w hc => block_Draft c w hc)
 have HFE := hq9 (fun w hd => nvm_Fence gd cb cap D w hd)
 clear hb hr hd hF hne hgd hfv hm hp
 go_enter Tryz.func199, Tryz.ntmps199
 go_wp2_with fail
 go_loopw [7] (fun _ wr => ∃ i : Nat, i ≤ m ∧ Blk wr g 229 (rvHead gd ph e i fv kv done sv why) ∧ nextAt pr F i = nextAt pr F nx ∧ Only [g] w wr) (fun _ wr => m - cellNat wr ⟨g, 4, none⟩)
 case atStart => exact ⟨nx, hnx, HB.out, rfl, Only.refl _ _⟩
 case round =>
  obtain ⟨i, hin, hb, hx, ho⟩ := hrel
  have BI := hq9 hb
  have NX := hq9 hx
  have ON := hq9 ho
  have RI := hq9 (HR.out.only ho (fun b hb h => by simp at h; exact (HNE.out.1 b hb).1 h))
  have MS := hq9 (show cellNat wr ⟨g, 4, none⟩ = i from cellNat_of (hb.cell 4))
  clear hb hx ho
  have c4 : wr.cell? ⟨g, 4, none⟩ = some (.int .i64 i) := BI.out.cell 4
  have c5 : wr.cell? ⟨g, 5, none⟩ = some (.slice A m c) := by rw [← HFV.out]; exact BI.out.cell 5
  by_cases hlt : i < m
  ·have q1 : decide ((i : Int) < (m : Int)) = true := by go_num
   have hiL : i < F.length := by have := HM.out; omega
   obtain ⟨x, hx⟩ : ∃ x, F[i]? = some x := ⟨_, List.getElem?_eq_getElem hiL⟩
   have hrr := RI.out
   rw [HFV.out] at hrr
   obtain ⟨bg, rfl, _⟩ := row_found hrr hx
   clear hrr
   have HXX := hq9 hx
   obtain ⟨kb, hkb⟩ : ∃ kb, kb = (⟨x.b.key.toArray⟩ : ByteArray) := ⟨_, rfl⟩
   obtain ⟨vb, hvb⟩ : ∃ vb, vb = (⟨x.b.val.toArray⟩ : ByteArray) := ⟨_, rfl⟩
   have HV := hq9 (show foundV x = .agg #[.int .i64 x.line, .bool x.good, .int .i64 x.b.cls, .int .i64 x.b.kind, .int .u64 x.b.id, .int .u64 x.b.ver, .int .u64 x.b.ep, .string kb, .string vb] by rw [hkb, hvb]; rfl)
   have HSS := hq9 (show ∀ W, Blk W g 229 (rvHead gd ph e i fv kv done sv why) → RowS 339 9 W fv (F.map foundC) → (W.cell? ⟨g, 4, none⟩ = some (.int .i64 i) ∧ W.cell? ⟨g, 5, none⟩ = some (.slice (some ⟨bg, 0, none⟩) m c) ∧ W.cell? ⟨bg, i * 9, none⟩ = some (.int .i64 x.line) ∧ W.cell? ⟨bg, i * 9 + 1, none⟩ = some (.bool x.good) ∧ W.cell? ⟨bg, i * 9 + 2, none⟩ = some (.int .i64 x.b.cls) ∧ W.cell? ⟨bg, i * 9 + 3, none⟩ = some (.int .i64 x.b.kind) ∧ W.cell? ⟨bg, i * 9 + 4, none⟩ = some (.int .u64 x.b.id) ∧ W.cell? ⟨bg, i * 9 + 5, none⟩ = some (.int .u64 x.b.ver) ∧ W.cell? ⟨bg, i * 9 + 6, none⟩ = some (.int .u64 x.b.ep) ∧ W.cell? ⟨bg, i * 9 + 7, none⟩ = some (.string kb) ∧ W.cell? ⟨bg, i * 9 + 8, none⟩ = some (.string vb)) from fun W hb hr => by
    rw [HFV.out] at hr
    obtain ⟨bg', hbg, e0, e1, e2, e3, e4, e5, e6, e7, e8⟩ := row_found hr HXX.out
    rw [← hkb] at e7
    rw [← hvb] at e8
    have : bg = bg' := by injection hbg with h; injection h
    subst this
    exact ⟨hb.cell 4, (show W.cell? ⟨g, 5, none⟩ = some fv from hb.cell 5).trans (by rw [HFV.out]), e0, e1, e2, e3, e4, e5, e6, e7, e8⟩)
   clear hkb hvb
   have HBD := hq9 (HFF.out x (List.mem_of_getElem? hx))
   clear hx
   go_wp2_with fail
   refine wp_region_later wr (by kernel_rfl) (by kernel_rfl) ?_
   have d4 := fun (p : Later wr) => Later.cell p c4
   have d5 := fun (p : Later wr) => Later.cell p c5
   clear c4 c5
   repeat (go_big_quiet_step (fail))
   repeat (go_big_quiet_step (fail))
   refine wpQuiet_nil ?_
   intro _ hw'
   obtain ⟨p, hw''⟩ := hw'
   subst hw''
   have opw := p.only
   clear d4 d5
   generalize p.w = w1 at *
   have B1 := hq9 (BI.out.only opw (by simp))
   have R1 := hq9 (RI.out.only0 opw)
   have O1 := hq9 (ON.out.trans0 opw)
   clear opw
   have s0 := HSS.out w1.drew (Blk.drew B1.out) (R1.out.only0 (Only.refl [] w1).drew)
   have oa := ((Only.refl [] w1).alloc (.cells #[.int .i64 0, .bool false, .int .i64 0, .int .i64 0, .int .u64 0, .int .u64 0, .int .u64 0, .string ⟨#[]⟩, .string ⟨#[]⟩] 339)).drew
   have hA := HSS.out _ (B1.out.only oa (by simp)) (R1.out.only0 oa)
   have ob := ((Only.refl [] w1).alloc (.cells #[.int .i64 x.line, .bool x.good, .int .i64 x.b.cls, .int .i64 x.b.kind, .int .u64 x.b.id, .int .u64 x.b.ver, .int .u64 x.b.ep, .string kb, .string vb] 339)).drew
   have XG := hq9 B1.out.lt
   have XLE := hq9 O1.out.size
   have B2 := hq9 (B1.out.only ob (by simp))
   have R2 := hq9 (R1.out.only0 ob)
   have O2 := hq9 (O1.out.trans0 ob)
   have hW := HSS.out _ B2.out R2.out
   have FB := hq9 (show Blk (w1.alloc (.cells #[.int .i64 x.line, .bool x.good, .int .i64 x.b.cls, .int .i64 x.b.kind, .int .u64 x.b.id, .int .u64 x.b.ver, .int .u64 x.b.ep, .string kb, .string vb] 339)).drew w1.heap.size 339 #[.int .i64 x.line, .bool x.good, .int .i64 x.b.cls, .int .i64 x.b.kind, .int .u64 x.b.id, .int .u64 x.b.ver, .int .u64 x.b.ep, .string kb, .string vb] from Blk.drew (Blk.new w1 339 #[.int .i64 x.line, .bool x.good, .int .i64 x.b.cls, .int .i64 x.b.kind, .int .u64 x.b.id, .int .u64 x.b.ver, .int .u64 x.b.ep, .string kb, .string vb]))
   clear oa ob
   go_wp2_with fail
   go_region_held3 (fun w' => w'.cell? ⟨g, 4, none⟩ = some (.int .i64 i) ∧ w'.cell? ⟨g, 5, none⟩ = some (.slice (some ⟨bg, 0, none⟩) m c) ∧ w'.cell? ⟨bg, i * 9, none⟩ = some (.int .i64 x.line) ∧ w'.cell? ⟨bg, i * 9 + 1, none⟩ = some (.bool x.good) ∧ w'.cell? ⟨bg, i * 9 + 2, none⟩ = some (.int .i64 x.b.cls) ∧ w'.cell? ⟨bg, i * 9 + 3, none⟩ = some (.int .i64 x.b.kind) ∧ w'.cell? ⟨bg, i * 9 + 4, none⟩ = some (.int .u64 x.b.id) ∧ w'.cell? ⟨bg, i * 9 + 5, none⟩ = some (.int .u64 x.b.ver) ∧ w'.cell? ⟨bg, i * 9 + 6, none⟩ = some (.int .u64 x.b.ep) ∧ w'.cell? ⟨bg, i * 9 + 7, none⟩ = some (.string kb) ∧ w'.cell? ⟨bg, i * 9 + 8, none⟩ = some (.string vb)) (first | (with_reducible assumption) | (with_reducible exact s0) | (with_reducible exact hA) | (with_reducible exact hW) | go_keep) (first | fail)
   clear s0 hA hW
   generalize (w1.alloc (.cells #[.int .i64 x.line, .bool x.good, .int .i64 x.b.cls, .int .i64 x.b.kind, .int .u64 x.b.id, .int .u64 x.b.ver, .int .u64 x.b.ep, .string kb, .string vb] 339)).drew = w2 at *
   generalize w1.heap.size = xb at *
   have c4 : w2.cell? ⟨g, 4, none⟩ = some (.int .i64 i) := B2.out.cell 4
   have f4 := B2.out.frozen 4
   have hwr : IntKind.i64.wrap ((i : Int) + 1) = (i : Int) + 1 := by rw [IntKind.wrap_i64]; omega
   have XLT := hq9 (show w.heap.size ≤ xb from XLE.out)
   have hxg : xb ≠ g := fun e => by have := XG.out; omega
   have BN := hq9 (show Blk (w2.setCell ⟨g, 4, none⟩ (.int .i64 ((i : Int) + 1))) g 229 (rvHead gd ph e ((i + 1 : Nat) : Int) fv kv done sv why) from by
    have := B2.out.set 4 (.int .i64 ((i : Int) + 1))
    rw [show ((i + 1 : Nat) : Int) = (i : Int) + 1 by omega]
    exact this)
   have on := (Only.refl [g] w2).setCell (p := ⟨g, 4, none⟩) (.inl (by simp)) (.int .i64 ((i : Int) + 1))
   have RN := hq9 (R2.out.only on (fun b hb h => by simp at h; exact (HNE.out.1 b hb).1 h))
   have XN := hq9 (FB.out.only on (by simpa using hxg))
   have ON2 := hq9 (O2.out.trans on (fun b hb => .inl hb))
   clear on
   have z0 := XN.out.cell 0
   have z1 := XN.out.cell 1
   have z2 := XN.out.cell 2
   have z3 := XN.out.cell 3
   have z4 := XN.out.cell 4
   have z5 := XN.out.cell 5
   have z6 := XN.out.cell 6
   have z7 := XN.out.cell 7
   have z8 := XN.out.cell 8
   go_wp2_with fail
   generalize (w2.setCell ⟨g, 4, none⟩ (.int .i64 ((i : Int) + 1))) = w3 at *
   have HC := HQ.out x _ w3 BN.out rfl
   rw [HV.out] at HC
   obtain ⟨pb, hpb⟩ : ∃ b, b = pr x := ⟨_, rfl⟩
   rw [← hpb] at HC
   have HPB := hq9 hpb
   clear hpb c4 f4
   refine HC.mono ?_
   clear HC
   rintro r w4 ⟨rfl, o4⟩
   have B4 := hq9 (BN.out.only o4 (by simp))
   have X4 := hq9 (XN.out.only o4 (by simp))
   have O4 := hq9 (ON2.out.trans0 o4)
   clear o4 z0 z1 z2 z3 z4 z5 z6 z7 z8
   cases pb with
   | false =>
    go_wp2
    go_roundw
    case rel => exact ⟨i + 1, by omega, B4.out, (nextAt_miss HXX.out HPB.out.symm).symm.trans NX.out, O4.out⟩
    case measure =>
     have h4 : cellNat w4 ⟨g, 4, none⟩ = i + 1 := cellNat_of (B4.out.cell 4)
     rw [h4, MS.out]
     omega
   | true =>
    have D4 := hq9 (HD.out.only O4.out (by simpa using fun h => HNE.out.2.1 h.symm) (by simpa using fun h => HNE.out.2.2 h.symm))
    obtain ⟨dl, hdl⟩ : ∃ dl, dl = draftOf x.b.cls := ⟨_, rfl⟩
    have HSC := hq9 (show scrubD D x = flush1 (store1 D x.line 0 dl) x.line from by rw [hdl]; rfl)
    have HD1 := hq9 (fun W => HDR.out x.b.cls W ⟨by have := HBD.out.1.c0; omega, by have := HBD.out.1.c3; omega⟩)
    rw [← hdl] at HD1
    have HDL := hq9 (show dl.length ≤ maxLen from by rw [hdl]; unfold maxLen; exact Nat.le_trans (draftOf_le _) (by decide))
    clear hdl
    have hxd : xb ≠ gd ∧ xb ≠ cb := ⟨fun e => by have := XLT.out; have := HD.out.lt1; omega, fun e => by have := XLT.out; have := HD.out.lt2; omega⟩
    have HXD := hq9 hxd
    have HS3 := hq9 (show ∀ W, Blk W g 229 (rvHead gd ph e ((i + 1 : Nat) : Int) fv kv done sv why) → Blk W xb 339 #[.int .i64 x.line, .bool x.good, .int .i64 x.b.cls, .int .i64 x.b.kind, .int .u64 x.b.id, .int .u64 x.b.ver, .int .u64 x.b.ep, .string kb, .string vb] → W.cell? ⟨g, 0, none⟩ = some (.pointer (some ⟨gd, 0, none⟩)) ∧ W.cell? ⟨xb, 0, none⟩ = some (.int .i64 x.line) ∧ W.cell? ⟨xb, 2, none⟩ = some (.int .i64 x.b.cls) from fun W h1 h2 => ⟨h1.cell 0, h2.cell 0, h2.cell 2⟩)
    have HNG : Hid (g ∉ [gd, cb] ∧ xb ∉ [gd, cb]) := ⟨by simp [HNE.out.2.1, HNE.out.2.2], by simp [hxd.1, hxd.2]⟩
    have s4 := HS3.out w4.drew (Blk.drew B4.out) (Blk.drew X4.out)
    have HE5 := hq9 (show ∀ W, Only [] w4 W → DevAt W gd cb cap D ∧ Blk W g 229 (rvHead gd ph e ((i + 1 : Nat) : Int) fv kv done sv why) ∧ Blk W xb 339 #[.int .i64 x.line, .bool x.good, .int .i64 x.b.cls, .int .i64 x.b.kind, .int .u64 x.b.id, .int .u64 x.b.ver, .int .u64 x.b.ep, .string kb, .string vb] from fun W o => ⟨D4.out.only0 o, B4.out.only o (by simp), X4.out.only o (by simp)⟩)
    clear hxd
    go_wp2_with fail
    go_region_held3 (fun w' => w'.cell? ⟨g, 0, none⟩ = some (.pointer (some ⟨gd, 0, none⟩)) ∧ w'.cell? ⟨xb, 0, none⟩ = some (.int .i64 x.line) ∧ w'.cell? ⟨xb, 2, none⟩ = some (.int .i64 x.b.cls))
     (first | (with_reducible assumption) | (with_reducible exact s4) | (with_reducible exact s5) | (with_reducible exact s6) | go_keep)
     (first
      | (go_at_call 247; refine (HD1.out _).mono ?_; rintro r w5 ⟨v5, rfl, hv5⟩; obtain ⟨A5, c5, rfl, hb5, _, o5⟩ := madeB_bs hv5; have BS5 := hq9 hb5; have O5 := hq9 ((Only.refl [] w4).drew.trans0 o5); have s5 := HS3.out w5 (HE5.out w5 O5.out).2.1 (HE5.out w5 O5.out).2.2; clear hv5 hb5 o5)
      | (go_at_call 33; refine (nvm_Store_any gd cb cap D x.line 0 A5 dl.length c5 dl w5 (HE5.out w5 O5.out).1 BS5.out HDL.out).mono ?_; rintro r w6 ⟨rfl, d6, o6⟩; have D6 := hq9 d6; have B6 := hq9 ((HE5.out w5 O5.out).2.1.only o6 HNG.out.1); have X6 := hq9 ((HE5.out w5 O5.out).2.2.only o6 HNG.out.2); have O6 := hq9 (((O4.out.trans0 O5.out).mono (T := [g, gd, cb]) (by simp)).trans o6 (fun b hb => .inl (List.mem_cons_of_mem _ hb))); have s6 := HS3.out w6 B6.out X6.out; clear d6 o6))
    clear s4 s5 s6
    have t6 : w6.drew.cell? ⟨g, 0, none⟩ = some (.pointer (some ⟨gd, 0, none⟩)) ∧ w6.drew.cell? ⟨xb, 0, none⟩ = some (.int .i64 x.line) := ⟨(Blk.drew B6.out).cell 0, (Blk.drew X6.out).cell 0⟩
    go_wp2_with fail
    go_region_held3 (fun w' => w'.cell? ⟨g, 0, none⟩ = some (.pointer (some ⟨gd, 0, none⟩)) ∧ w'.cell? ⟨xb, 0, none⟩ = some (.int .i64 x.line))
     (first | (with_reducible assumption) | (with_reducible exact t6) | (with_reducible exact t7) | go_keep)
     (first
      | (go_at_call 178; refine (nvm_Flush_any gd cb cap (store1 D x.line 0 dl) x.line w6.drew (D6.out.only0 (Only.refl [] w6).drew)).mono ?_; rintro r w7 ⟨rfl, d7, o7⟩; have D7 := hq9 d7; have B7 := hq9 ((Blk.drew B6.out).only o7 HNG.out.1); have O7 := hq9 ((O6.out.trans0 (Only.refl [] w6).drew).trans o7 (fun b hb => .inl (List.mem_cons_of_mem _ hb))); have t7 : w7.cell? ⟨g, 0, none⟩ = some (.pointer (some ⟨gd, 0, none⟩)) ∧ w7.cell? ⟨xb, 0, none⟩ = some (.int .i64 x.line) := ⟨B7.out.cell 0, ((Blk.drew X6.out).only o7 HNG.out.2).cell 0⟩; clear d7 o7))
    clear t6 t7
    go_wp2
    go_ret
    exact ⟨rfl, WipeAns.hit (NX.out.symm.trans (nextAt_hit HXX.out HPB.out.symm)) HXX.out HPB.out.symm B7.out (by rw [HSC.out]; exact D7.out), O7.out⟩
  ·have q1 : decide ((i : Int) < (m : Int)) = false := by go_num
   have HEND := hq9 (nextAt_end (p := pr) (F := F) (i := i) (by have := HM.out; omega))
   go_wp2_with fail
   refine wp_region_later wr (by kernel_rfl) (by kernel_rfl) ?_
   have d4 := fun (p : Later wr) => Later.cell p c4
   have d5 := fun (p : Later wr) => Later.cell p c5
   clear c4 c5
   repeat (go_big_quiet_step (fail))
   repeat (go_big_quiet_step (fail))
   refine wpQuiet_nil ?_
   intro _ hw'
   obtain ⟨p, hw''⟩ := hw'
   subst hw''
   have opw := p.only
   clear d4 d5
   generalize p.w = w1 at *
   have B1 := hq9 (BI.out.only opw (by simp))
   have O1 := hq9 (ON.out.trans0 opw)
   clear opw
   have D1 := hq9 (HD.out.only O1.out (by simpa using fun h => HNE.out.2.1 h.symm) (by simpa using fun h => HNE.out.2.2 h.symm))
   have c0 : w1.cell? ⟨g, 0, none⟩ = some (.pointer (some ⟨gd, 0, none⟩)) := B1.out.cell 0
   go_wp2_with fail
   refine (HFE.out w1 D1.out).mono ?_
   rintro r w2 ⟨rfl, d2, o2⟩
   have B2 := hq9 (B1.out.only o2 (by simp [HNE.out.2.1, HNE.out.2.2]))
   have D2 := hq9 d2
   have O2 := hq9 ((O1.out.mono (T := [g, gd, cb]) (by simp)).trans o2 (fun b hb => .inl (List.mem_cons_of_mem _ hb)))
   clear d2 o2 c0
   go_wp2_with fail
   refine (rv_to g gd ph q e i fv kv done sv why w2 B2.out).mono ?_
   rintro r w3 ⟨rfl, b3, o3⟩
   have B3 := hq9 b3
   have D3 := hq9 (D2.out.only o3 (by simpa using fun h => HNE.out.2.1 h.symm) (by simpa using fun h => HNE.out.2.2 h.symm))
   have O3 := hq9 (O2.out.trans o3 (fun b hb => .inl (by simp at hb; simp [hb])))
   clear b3 o3
   go_wp2
   go_ret
   exact ⟨rfl, WipeAns.miss (NX.out.symm.trans HEND.out) B3.out D3.out, O3.out⟩
end Go.Proofs.YtlggichakafkiaaGreat
namespace Go.Proofs.YtlggichakafkiaaGreat
open Go.BigFrame Go.RowKit Go.Proofs.FuMem
set_option maxRecDepth 100000
theorem once_disable (w : World) : (callFunc 303 #[]).run Tryz.prog w = .ok (.value (.tuple #[])) w := run_call_mark0 Tryz.func303 (by kernel_rfl) (by kernel_rfl) (by kernel_rfl) .disable (by kernel_rfl) w
theorem once_enable (w : World) : (callFunc 305 #[]).run Tryz.prog w = .ok (.value (.tuple #[])) w := run_call_mark0 Tryz.func305 (by kernel_rfl) (by kernel_rfl) (by kernel_rfl) .enable (by kernel_rfl) w
theorem once_acquire (a : Addr) (w : World) : (callFunc 306 #[.pointer (some a)]).run Tryz.prog w = .ok (.value (.tuple #[])) w := run_call_marked Tryz.func306 (by kernel_rfl) (by kernel_rfl) (by kernel_rfl) .acquire (by kernel_rfl) a w
theorem once_release (a : Addr) (w : World) : (callFunc 308 #[.pointer (some a)]).run Tryz.prog w = .ok (.value (.tuple #[])) w := run_call_marked Tryz.func308 (by kernel_rfl) (by kernel_rfl) (by kernel_rfl) .releaseMerge (by kernel_rfl) a w
theorem once_store (a : Addr) (x : Value) (u : FrameMode) (w : World) (hc : w.cell? a = some x) (hz : w.frozen? a = false) :
  CallsD Tryz.prog 209 #[.pointer (some a), .bool true] u w fun e u' w' => u' = u ∧ (e = .returned (.tuple #[]) ∧ w' = w.drew.setCell a (.int .u32 1)) := by
 have hc' : w.drew.cell? a = some x := by go_simp
 have hz' : w.drew.frozen? a = false := by go_simp
 have hst := run_call_store (P := Tryz.prog) Tryz.func254 (by kernel_rfl) (by kernel_rfl) (by kernel_rfl) (by kernel_rfl) (k := .u32) (y := 1) hc' hz'
 go_enter_d Tryz.func209, Tryz.ntmps209
 go_wp2
 go_region_calls
 all_goals (go_end0; exact ⟨rfl, rfl⟩)
theorem once_unlock (a : Addr) (u : FrameMode) (w : World) (hc : w.cell? a = some (.int .i32 1)) (hz : w.frozen? a = false) :
  CallsD Tryz.prog 208 #[.pointer (some a)] u w fun e u' w' => u' = u ∧ (e = .returned (.tuple #[]) ∧ w' = w.setCell a (.int .i32 0)) := by
 have hd := once_disable
 have he := once_enable
 have hr := once_release
 have hadd := run_call_add (P := Tryz.prog) Tryz.func309 (by kernel_rfl) (by kernel_rfl) (by kernel_rfl) .i32 (by kernel_rfl) (y := -1) (s := 0) hc hz (by simp [go_sem]; rfl)
 have hcv := run_convert_to_unsafe (P := Tryz.prog) (src := 426) (dst := 430) Tryz.underlying426 Tryz.underlying430 (by kernel_rfl) hc
 go_enter_d Tryz.func208, Tryz.ntmps208
 go_wp2
 go_end0
 go_wp2
 go_end0
 exact ⟨rfl, rfl⟩
theorem once_lock (a : Addr) (w : World) (hc : w.cell? a = some (.int .i32 0)) (hz : w.frozen? a = false) :
  Calls Tryz.prog 207 #[.pointer (some a)] w fun e w' => e = .returned (.tuple #[]) ∧ w' = w.setCell a (.int .i32 1) := by
 have hd := once_disable
 have he := once_enable
 have ha := once_acquire
 have hcas := run_call_cas_hit (P := Tryz.prog) Tryz.func304 (by kernel_rfl) (by kernel_rfl) (by kernel_rfl) .i32 (by kernel_rfl) (y := 1) hc hz
 have hc' : (w.setCell a (.int .i32 1)).cell? a = some (.int .i32 1) := World.cell?_setCell_same w a _ hc
 have hcv := run_convert_to_unsafe (P := Tryz.prog) (src := 426) (dst := 430) Tryz.underlying426 Tryz.underlying430 (by kernel_rfl) hc'
 go_enter Tryz.func207, Tryz.ntmps207
 go_wp2
 first | go_end0 | (simp only [Exit.inBlock, Exit.then]; refine bodyPost_ret (results_none rfl _ _ _) rfl ?_) | refine bodyPost_ret (results_none rfl _ _ _) rfl ?_
 go_wp2
 go_end0
 exact ⟨rfl, rfl⟩
end Go.Proofs.YtlggichakafkiaaGreat
namespace Go.Proofs.YtlggichakafkiaaGreat
open Go.BigFrame Go.RowKit Go.Proofs.FuMem
set_option maxRecDepth 100000
theorem bool_load (a : Addr) (d : Int) (w : World) (h0 : w.cell? a = some (.int .u32 d)) :
  Calls Tryz.prog 174 #[.pointer (some a)] w fun e w' => e = .returned (.bool (d != 0)) ∧ w = w' := by
 have hl := run_call_load (P := Tryz.prog) Tryz.func206 (by kernel_rfl) (by kernel_rfl) (by kernel_rfl) .u32 (by kernel_rfl) h0
 go_enter Tryz.func174, Tryz.ntmps174
 go_wp2
 go_ret
 exact ⟨rfl, rfl⟩
set_option maxHeartbeats 1600000 in
theorem once_slow (b off : Nat) (f : FuncId) (caps : Array Value) (hent : ∀ w, (callFunc f caps).run Tryz.prog w = .ok (.enter f caps) w) (R : World → Prop) (w : World) (h0 : w.cell? ⟨b, off, none⟩ = some (.int .u32 0)) (h1 : w.cell? ⟨b, off + 1, none⟩ = some (.int .i32 0)) (f1 : w.frozen? ⟨b, off + 1, none⟩ = false)
  (HF : Calls Tryz.prog f caps (w.setCell ⟨b, off + 1, none⟩ (.int .i32 1)) fun e w' => e = .returned (.tuple #[]) ∧ R w' ∧ w'.cell? ⟨b, off, none⟩ = some (.int .u32 0) ∧ w'.cell? ⟨b, off + 1, none⟩ = some (.int .i32 1) ∧ w'.frozen? ⟨b, off, none⟩ = false ∧ w'.frozen? ⟨b, off + 1, none⟩ = false) :
  Calls Tryz.prog 175 #[.pointer (some ⟨b, off, none⟩), .func (.func f) #[] caps] w fun e w' => e = .returned (.tuple #[]) ∧ ∃ w1, R w1 ∧ w' = (w1.drew.setCell ⟨b, off, none⟩ (.int .u32 1)).setCell ⟨b, off + 1, none⟩ (.int .i32 0) := by
 have HFF := hq9 HF
 have hl := run_call_load (P := Tryz.prog) Tryz.func206 (by kernel_rfl) (by kernel_rfl) (by kernel_rfl) .u32 (by kernel_rfl) (w := w.setCell ⟨b, off + 1, none⟩ (.int .i32 1)) (a := ⟨b, off, none⟩) (x := 0) ((World.cell?_setCell_other _ ⟨b, off + 1, none⟩ ⟨b, off, none⟩ _ (by simp)).trans h0)
 have hnot : ∀ (x : Bool) (w : World), (Op.unary .not (.bool x)).run Tryz.prog w = .ok (.bool (!x)) w := fun _ _ => rfl
 clear HF
 go_enter_defers Tryz.func175, Tryz.ntmps175
 go_wp2_with (go_at_call 207; refine (once_lock ⟨b, off + 1, none⟩ _ (by go_simp) (by go_simp)).mono ?_; rintro e w' ⟨rfl, rfl⟩)
 go_wp2_with fail
 refine (bool_load ⟨b, off, none⟩ 0 _ ((World.cell?_setCell_other _ ⟨b, off + 1, none⟩ ⟨b, off, none⟩ _ (by simp)).trans h0)).mono ?_
 rintro e w' ⟨rfl, rfl⟩
 go_wp2_with fail
 refine HFF.out.mono ?_
 rintro e w1 ⟨rfl, hR, c0, c1, z0, z1⟩
 have HRR := hq9 hR
 clear hR
 go_wp2
 refine leaves_cons (f := 209) (args := #[.pointer (some ⟨b, off, none⟩), .bool true]) (by simp) (by simp [go_sem]) ?_
 refine (once_store ⟨b, off, none⟩ (.int .u32 0) .returning _ c0 z0).mono ?_
 rintro e u' w'' ⟨rfl, rfl, rfl⟩
 refine leaves_cons (f := 208) (args := #[.pointer (some ⟨b, off + 1, none⟩)]) (by simp [settle]) (by simp [go_sem]) ?_
 refine (once_unlock ⟨b, off + 1, none⟩ _ _ ?_ (by simp [z1])).mono ?_
 ·refine (World.cell?_setCell_other _ ⟨b, off, none⟩ ⟨b, off + 1, none⟩ _ (by simp)).trans ?_
  rw [World.cell?_drew]
  exact c1
 rintro e u' w'' ⟨rfl, rfl, rfl⟩
 have hfin := HRR.out
 simp [Leaves, settle, results, Tryz.results175]
 exact ⟨w1, hfin, rfl⟩
theorem once_first (b off : Nat) (f : FuncId) (caps : Array Value) (hent : ∀ w, (callFunc f caps).run Tryz.prog w = .ok (.enter f caps) w) (R : World → Prop) (w : World) (h0 : w.cell? ⟨b, off, none⟩ = some (.int .u32 0)) (h1 : w.cell? ⟨b, off + 1, none⟩ = some (.int .i32 0)) (f1 : w.frozen? ⟨b, off + 1, none⟩ = false)
  (HF : Calls Tryz.prog f caps (w.setCell ⟨b, off + 1, none⟩ (.int .i32 1)) fun e w' => e = .returned (.tuple #[]) ∧ R w' ∧ w'.cell? ⟨b, off, none⟩ = some (.int .u32 0) ∧ w'.cell? ⟨b, off + 1, none⟩ = some (.int .i32 1) ∧ w'.frozen? ⟨b, off, none⟩ = false ∧ w'.frozen? ⟨b, off + 1, none⟩ = false) :
  Calls Tryz.prog 140 #[.pointer (some ⟨b, off, none⟩), .func (.func f) #[] caps] w fun e w' => e = .returned (.tuple #[]) ∧ ∃ w1, R w1 ∧ w' = (w1.drew.setCell ⟨b, off, none⟩ (.int .u32 1)).setCell ⟨b, off + 1, none⟩ (.int .i32 0) := by
 have HS := hq9 (once_slow b off f caps hent R w h0 h1 f1 HF)
 have HL := hq9 (bool_load ⟨b, off, none⟩ 0 w h0)
 have hnot : ∀ (x : Bool) (w : World), (Op.unary .not (.bool x)).run Tryz.prog w = .ok (.bool (!x)) w := fun _ _ => rfl
 clear HF
 go_enter Tryz.func140, Tryz.ntmps140
 go_wp2_with fail
 refine HL.out.mono ?_
 rintro e w' ⟨rfl, rfl⟩
 go_wp2_with fail
 refine HS.out.mono ?_
 rintro e w2 ⟨rfl, h2⟩
 have H2 := hq9 h2
 clear h2
 go_wp2
 go_end0
 exact ⟨rfl, H2.out⟩
end Go.Proofs.YtlggichakafkiaaGreat
namespace Go.Proofs.YtlggichakafkiaaGreat
open Go.BigFrame Go.RowKit Go.Proofs.FuMem Go.Proofs.FuTop Go.Proofs.FuNvm Go.Proofs.FuPool Go.Proofs.FuClk Go.Proofs.FuGeom
set_option maxRecDepth 100000
theorem format_inner (bx d gd cb cap : Nat) (D : Dev) (x y z : Value) (w : World) (hb : Blk w bx 188 #[.pointer (some ⟨d, 0, none⟩)]) (hd : Blk w d 210 #[.pointer (some ⟨gd, 0, none⟩), x, y, z]) (hD : DevAt w gd cb cap D) :
  Calls Tryz.prog 141 #[.pointer (some ⟨bx, 0, none⟩)] w fun e w' => e = .returned (.tuple #[]) ∧ DevAt w' gd cb cap (formatD D) ∧ Only [gd, cb] w w' := by
 have c0 := hb.cell 0
 have c1 := hd.cell 0
 have HF := hq9 (geom_Format gd cb cap D w hD)
 clear hb hd hD
 go_enter Tryz.func141, Tryz.ntmps141
 go_wp2_with fail
 refine HF.out.mono ?_
 rintro e w' ⟨rfl, d1, o1⟩
 have D1 := hq9 d1
 have O1 := hq9 o1
 clear d1 o1
 go_wp2
 go_end0
 exact ⟨rfl, D1.out, O1.out⟩
set_option maxHeartbeats 1600000 in
theorem dev_format (d gd cb cap : Nat) (D : Dev) (w : World) (hd : Blk w d 210 #[.pointer (some ⟨gd, 0, none⟩), .int .u32 0, .int .i32 0, .int .u32 0]) (hD : DevAt w gd cb cap D) (h1 : d ≠ gd) (h2 : d ≠ cb) :
  Calls Tryz.prog 98 #[.pointer (some ⟨d, 0, none⟩)] w fun e w' => e = .returned (.tuple #[]) ∧ DevAt w' gd cb cap (formatD D) ∧ Blk w' d 210 #[.pointer (some ⟨gd, 0, none⟩), .int .u32 1, .int .i32 0, .int .u32 0] ∧ Only [d, gd, cb] w w' := by
 have hbl := hd.lt
 have BX := hq9 (Blk.new w 188 #[.pointer (some ⟨d, 0, none⟩)])
 have OX := hq9 ((Only.refl [] w).alloc (.cells #[.pointer (some ⟨d, 0, none⟩)] 188))
 obtain ⟨w1, hw1⟩ : ∃ w1, w1 = w.alloc (.cells #[.pointer (some ⟨d, 0, none⟩)] 188) := ⟨_, rfl⟩
 rw [← hw1] at BX OX
 have D1 := hd.only OX.out (by simp)
 have V1 := hD.only0 OX.out
 have D2 : Blk (w1.setCell ⟨d, 2, none⟩ (.int .i32 1)) d 210 #[.pointer (some ⟨gd, 0, none⟩), .int .u32 0, .int .i32 1, .int .u32 0] := by
  have := D1.set 2 (.int .i32 1)
  simpa using this
 have OS : Only [d] w1 (w1.setCell ⟨d, 2, none⟩ (.int .i32 1)) := (Only.refl [d] w1).setCell (.inl (by simp)) _
 have hxd : w.heap.size ≠ d := by omega
 have BX2 := BX.out.only OS (by simpa using hxd)
 have V2 := V1.only OS (by simpa using fun e => h1 e.symm) (by simpa using fun e => h2 e.symm)
 have HO := hq9 (once_first d 1 141 #[.pointer (some ⟨w.heap.size, 0, none⟩)] (fun w => by simp [callFunc, Tryz.func141]; rfl) (fun w' => DevAt w' gd cb cap (formatD D) ∧ Only [gd, cb] (w1.setCell ⟨d, 2, none⟩ (.int .i32 1)) w') w1 (D1.cell 1) (D1.cell 2) (D1.frozen 2) ((format_inner w.heap.size d gd cb cap D _ _ _ _ BX2 D2 V2).mono (by
  rintro e w' ⟨rfl, d3, o3⟩
  have D3 := D2.only o3 (by simp [h1, h2])
  exact ⟨rfl, ⟨d3, o3⟩, D3.cell 1, D3.cell 2, D3.frozen 1, D3.frozen 2⟩)))
 have HD2 := hq9 D2
 have HNE := hq9 (And.intro h1 h2)
 have HW := hq9 hw1
 clear hd hD D1 V1 D2 OS BX2 V2
 have hmf : ∀ (fn : Fn) (first cap : Array Value) (w : World), (Instr.makeFunc fn first cap).run Tryz.prog w = .ok (.func fn first cap) w := fun _ _ _ _ => rfl
 have b0 := BX.out.cell 0
 rw [hw1] at b0
 clear hw1
 go_enter Tryz.func98, Tryz.ntmps98
 go_wp2_with fail
 rw [← HW.out]
 refine HO.out.mono ?_
 rintro e w' ⟨rfl, w2, ⟨d3, o3⟩, rfl⟩
 have D3 := HD2.out.only o3 (by simp [HNE.out.1, HNE.out.2])
 have D4 : Blk (w2.drew.setCell ⟨d, 1, none⟩ (.int .u32 1)) d 210 #[.pointer (some ⟨gd, 0, none⟩), .int .u32 1, .int .i32 1, .int .u32 0] := by
  have := (Blk.drew D3).set 1 (.int .u32 1)
  simpa using this
 have D5 : Blk ((w2.drew.setCell ⟨d, 1, none⟩ (.int .u32 1)).setCell ⟨d, 2, none⟩ (.int .i32 0)) d 210 #[.pointer (some ⟨gd, 0, none⟩), .int .u32 1, .int .i32 0, .int .u32 0] := by
  have := D4.set 2 (.int .i32 0)
  simpa using this
 have O5 : Only [d] w2 ((w2.drew.setCell ⟨d, 1, none⟩ (.int .u32 1)).setCell ⟨d, 2, none⟩ (.int .i32 0)) := (((Only.refl [d] w2).drew).setCell (p := ⟨d, 1, none⟩) (.inl (by simp)) _).setCell (p := ⟨d, 2, none⟩) (.inl (by simp)) _
 have V5 := d3.only O5 (by simpa using fun e => HNE.out.1 e.symm) (by simpa using fun e => HNE.out.2 e.symm)
 have OS : Only [d] w1 (w1.setCell ⟨d, 2, none⟩ (.int .i32 1)) := (Only.refl [d] w1).setCell (.inl (by simp)) _
 have OO := (((OX.out.mono (T := [d, gd, cb]) (by simp)).trans OS (fun b hb => .inl (by simp at hb; simp [hb]))).trans o3 (fun b hb => .inl (List.mem_cons_of_mem _ hb))).trans O5 (fun b hb => .inl (by simp at hb; simp [hb]))
 have FIN := hq9 (And.intro V5 (And.intro D5 OO))
 clear d3 o3 D3 D4 D5 O5 V5 OS OO
 generalize ((w2.drew.setCell ⟨d, 1, none⟩ (.int .u32 1)).setCell ⟨d, 2, none⟩ (.int .i32 0)) = w5 at *
 go_wp2
 go_end0
 exact ⟨rfl, FIN.out.1, FIN.out.2.1, FIN.out.2.2⟩
end Go.Proofs.YtlggichakafkiaaGreat
namespace Go.Proofs.YtlggichakafkiaaGreat
open Go.BigFrame Go.RowKit Go.Proofs.FuMem Go.Proofs.FuTop Go.Proofs.FuNvm Go.Proofs.FuPool Go.Proofs.FuClk Go.Proofs.FuGeom
set_option maxRecDepth 100000
def upS (n e N : Nat) : ArS := { newS n e N with done := 1 }
theorem newDev_lines (N : Nat) : (newDev N).lines.length = N := by simp [newDev]
theorem ArAt.formatted {w w' : World} {gd cb : Nat} {B : ArB} {S : ArS} (h : ArAt w gd B S) (hB : Blk w' B.d 210 #[pt gd, .int .u32 1, .int .i32 0, .int .u32 0]) (ho : Only [B.d, gd, cb] w w') (h1 : ∀ b ∈ (arFs B).flatten, b ≠ gd ∧ b ≠ cb) : ArAt w' gd B { S with done := 1 } := by
 refine Whole.upd2 h (arXs_fit _ _ _) 3 (F := [B.d]) (F' := [B.d]) (Y := blkC B.d 210 #[pt gd, .int .u32 1, .int .i32 0, .int .u32 0]) rfl ho (fun b hb => ?_) ⟨rfl, hB⟩ (by simp) (fun b hb => .inl hb)
 rcases List.mem_cons.1 hb with rfl | hb
 ·exact .inl (by simp)
 ·refine .inr fun hm => ?_
  rcases List.mem_cons.1 hb with rfl | hb
  ·exact (h1 _ hm).1 rfl
  ·exact (h1 _ hm).2 (List.mem_singleton.1 hb)
set_option maxHeartbeats 1600000 in
theorem arena_New (n t : Nat) (w : World) (h10 : 10 ≤ n) (h258 : n ≤ 258) (h1 : 1 ≤ t) (h4 : t ≤ 4) :
  Calls Tryz.prog 56 #[.int .i64 n, .int .i64 t] w fun e w' => ∃ gd cb B, e = .returned (.tuple #[pt B.a, .int .i64 0]) ∧ ArAt w' gd B (upS t 0 n) ∧ DevAt w' gd cb n (formatD (newDev n)) ∧ Only [] w w' ∧ w.heap.size ≤ gd ∧ w.heap.size ≤ cb ∧ ∀ b ∈ (arFs B).flatten, w.heap.size ≤ b ∧ b ≠ gd ∧ b ≠ cb := by
 have HN := hq9 (nvm_New n w (by omega) h258)
 have HM := hq9 (fun gd cb w hd => arena_made gd cb n (newDev n) t 0 w hd (by rw [newDev_lines]; exact h10) h1 h4 (by omega))
 rw [newDev_lines] at HM
 unfold pt at HM ⊢
 rw [show ((0 : Nat) : Int) = 0 from rfl] at HM
 clear h10 h258 h1 h4
 go_enter Tryz.func56, Tryz.ntmps56
 go_wp2_with fail
 refine HN.out.mono ?_
 rintro e w1 ⟨gd, cb, rfl, d1, o1, n1, n2⟩
 have D1 := hq9 d1
 have O1 := hq9 o1
 have N1 := hq9 (And.intro n1 n2)
 clear d1 o1 n1 n2
 go_wp2_with fail
 refine (HM.out gd cb w1 D1.out).mono ?_
 rintro e w2 ⟨B, rfl, a2, o2, n2⟩
 have hds : ∀ b ∈ (arFs B).flatten, b ≠ gd ∧ b ≠ cb := fun b hb => by
  have := n2 b hb
  have := D1.out.lt1
  have := D1.out.lt2
  constructor <;> omega
 have hdm : B.d ∈ (arFs B).flatten := by simp [arFs]
 have c0 := a2.head.cell 0
 have HF := hq9 (dev_format B.d gd cb n (newDev n) w2 a2.dev (D1.out.only0 o2) (hds _ hdm).1 (hds _ hdm).2)
 have A2 := hq9 a2
 have O2 := hq9 o2
 have N2 := hq9 (And.intro n2 hds)
 have c1 : w2.cell? ⟨B.a, 0, none⟩ = some (.pointer (some ⟨B.d, 0, none⟩)) := c0
 clear a2 o2 n2 hds hdm c0
 go_wp2_with fail
 refine HF.out.mono ?_
 rintro e w3 ⟨rfl, d3, b3, o3⟩
 have D3 := hq9 d3
 have B3 := hq9 b3
 have O3 := hq9 o3
 clear d3 b3 o3 c1
 go_wp2
 go_ret2
 have hd2 : ∀ b ∈ [B.d, gd, cb], b ∈ ([] : List Nat) ∨ w.heap.size ≤ b := fun b hb => by
  simp only [List.mem_cons, List.not_mem_nil, or_false] at hb
  refine .inr ?_
  rcases hb with rfl | rfl | rfl
  ·exact Nat.le_trans O1.out.size (N2.out.1 _ (by simp [arFs]))
  ·exact N1.out.1
  ·exact N1.out.2
 exact ⟨gd, cb, B, rfl, A2.out.formatted B3.out O3.out N2.out.2, D3.out, (O1.out.trans0 O2.out).trans O3.out hd2, N1.out.1, N1.out.2, fun b hb => ⟨Nat.le_trans O1.out.size (N2.out.1 b hb), N2.out.2 b hb⟩⟩
end Go.Proofs.YtlggichakafkiaaGreat
namespace Go.Proofs.FuTop
open Go.Proofs.FuPool Go.Proofs.FuClass Go.Proofs.FuBlock
theorem overAll_snoc : ∀ {l : List Found} {A A1 : Ar} {x : Found}, overAll A l = some A1 → overAll A (l ++ [x]) = over1 A1 x
 | [], A, A1, x, h => by
  injection h with h
  subst h
  show (match over1 A x with | none => none | some A' => overAll A' []) = _
  cases over1 A x <;> rfl
 | y :: l, A, A1, x, h => by
  unfold overAll at h
  show (match over1 A y with | none => none | some A' => overAll A' (l ++ [x])) = _
  cases h1 : over1 A y with
  | none => rw [h1] at h; cases h
  | some A2 =>
   rw [h1] at h
   exact overAll_snoc h
theorem overAll_none : ∀ {l m : List Found} {A : Ar}, overAll A l = none → overAll A (l ++ m) = none
 | [], m, A, h => by cases h
 | y :: l, m, A, h => by
  unfold overAll at h
  show (match over1 A y with | none => none | some A' => overAll A' (l ++ m)) = _
  cases h1 : over1 A y with
  | none => rfl
  | some A2 =>
   rw [h1] at h
   exact overAll_none h
structure ArGood (A : Ar) (i : Nat) : Prop where
 ok : Ok A.pool
 rise : Rising A.tab
 few : A.tab.length ≤ i
 fewq : A.line.length ≤ i
 id : A.id < 18446744073709551616
 ver : A.ver < 18446744073709551616
theorem emptyA_good (n : Nat) : ArGood (emptyA n) 0 := ⟨newPool_ok _, List.Pairwise.nil, Nat.le_refl _, Nat.le_refl _, Nat.zero_lt_succ _, Nat.zero_lt_succ _⟩
theorem over1_some {A A1 : Ar} {x : Found} (h : over1 A x = some A1) : (x.good = true ∧ may x.b = true ∧ (x.b.kind = 1 ∨ x.b.kind = 2) ∧ markA A.pool x.line x.b.cls = 0) ∧ (x.b.kind ≠ 2 → hasKey A.tab x.b.key = false) ∧
  A1 = ⟨markP A.pool x.line x.b.cls, if x.b.kind = 2 then A.tab else ins (linkOf x) A.tab, if x.b.kind = 2 then A.line ++ [linkOf x] else A.line, max A.id x.b.id, max A.ver x.b.ver⟩ := by
 unfold over1 at h
 split at h
 case isFalse => cases h
 rename_i h0
 refine ⟨h0, ?_⟩
 split at h
 ·rename_i h2
  injection h with h
  refine ⟨fun h3 => absurd h2 h3, ?_⟩
  rw [if_pos h2, if_pos h2]
  exact h.symm
 ·rename_i h2
  split at h
  ·cases h
  ·rename_i h3
   injection h with h
   refine ⟨fun _ => by simpa using h3, ?_⟩
   rw [if_neg h2, if_neg h2]
   exact h.symm
theorem over1_good {A A1 : Ar} {x : Found} {i : Nat} (hg : ArGood A i) (hx : Bd x) (h : over1 A x = some A1) : ArGood A1 (i + 1) := by
 obtain ⟨h0, h1, rfl⟩ := over1_some h
 refine ⟨markP_ok hg.ok _ _, ?_, ?_, ?_, ?_, ?_⟩
 ·show Rising (if x.b.kind = 2 then A.tab else ins (linkOf x) A.tab)
  split
  ·exact hg.rise
  ·exact ins_rising hg.rise
 ·show (if x.b.kind = 2 then A.tab else ins (linkOf x) A.tab).length ≤ i + 1
  split
  ·have := hg.few; omega
  ·have := hg.few; have := ins_length (linkOf x) A.tab; omega
 ·show (if x.b.kind = 2 then A.line ++ [linkOf x] else A.line).length ≤ i + 1
  split
  ·rw [List.length_append]; have := hg.fewq; simp; omega
  ·have := hg.fewq; omega
 ·have := hg.id; have := hx.id; show max A.id x.b.id < _; omega
 ·have := hg.ver; have := hx.ver; show max A.ver x.b.ver < _; omega
end Go.Proofs.FuTop
namespace Go.Proofs.YtlggichakafkiaaGreat
open Go.BigFrame Go.RowKit Go.Proofs.FuMem Go.Proofs.FuTop Go.Proofs.FuNvm Go.Proofs.FuPool Go.Proofs.FuClk
set_option maxRecDepth 100000
def ovS (n e N : Nat) (A : Ar) (Ls : List (List Link)) (L : List Link) : ArS := { newS n e N with P := A.pool, T := A.tab, Ls := Ls, L := L, id := A.id, ver := A.ver }
def ArW (w : World) (gd : Nat) (B : ArB) (S : ArS) (v : Value) (Q : List Link) : Prop := Whole (arXs gd B S ++ [rowC 70 5 v (Q.map linkC)]) w (arFs B ++ [v.ownBlock.toList])
section
variable {w w' : World} {gd : Nat} {B : ArB} {S : ArS} {v : Value} {Q : List Link}
theorem arW_fit (gd : Nat) (B : ArB) (S : ArS) (v : Value) (Q : List Link) : ∀ X ∈ arXs gd B S ++ [rowC 70 5 v (Q.map linkC)], X.Fit := fun X hX => by
 rcases List.mem_append.1 hX with h | h
 ·exact arXs_fit _ _ _ X h
 ·rw [List.mem_singleton.1 h]; exact rowC_fit _ _ _ _
theorem ArW.pool (h : ArW w gd B S v Q) : PoolAt w B.p B.ps S.P := h.1.2.2.1.2
theorem ArW.tab (h : ArW w gd B S v Q) : TabAt w B.t B.ts S.T := h.1.2.2.2.2.2.1.2
theorem ArW.ord (h : ArW w gd B S v Q) : LevAt w B.o B.ov S.Ls := h.1.2.2.2.2.2.2.1.2
theorem ArW.line (h : ArW w gd B S v Q) : LineAt w B.l B.lv S.L := h.1.2.2.2.2.2.2.2.1.2
theorem ArW.head (h : ArW w gd B S v Q) : Blk w B.a 198 (arHead B S) := h.1.2.2.2.2.2.2.2.2.1.2
theorem ArW.row (h : ArW w gd B S v Q) : RowS 70 5 w v (Q.map linkC) := h.1.2.2.2.2.2.2.2.2.2.2.1.2
theorem ArW.keep {T : List Nat} (h : ArW w gd B S v Q) (ho : Only T w w') (hs : ∀ b ∈ (arFs B ++ [v.ownBlock.toList]).flatten, b ∉ T) : ArW w' gd B S v Q := Whole.keep h (arW_fit _ _ _ _ _) ho hs
theorem ArW.keep0 (h : ArW w gd B S v Q) (ho : Only [] w w') : ArW w' gd B S v Q := h.keep ho (by simp)
theorem ArW.lt (h : ArW w gd B S v Q) : ∀ b ∈ (arFs B ++ [v.ownBlock.toList]).flatten, b < w.heap.size := Whole.lt h (arW_fit _ _ _ _ _)
theorem star_take : ∀ {Xs Ys : List Comp} {Fs Gs : List (List Nat)}, Xs.length = Fs.length → Star (Xs ++ Ys) w (Fs ++ Gs) → Star Xs w Fs
 | [], _, [], _, _, _ => trivial
 | _ :: _, _, [], _, h, _ => by simp at h
 | [], _, _ :: _, _, h, _ => by simp at h
 | X :: Xs, Ys, F :: Fs, Gs, h, hs => ⟨hs.1, star_take (by simpa using h) hs.2⟩
theorem ArW.ar (h : ArW w gd B S v Q) : ArAt w gd B S := ⟨star_take rfl h.1, by
 have := h.2
 rw [List.flatten_append, List.nodup_append] at this
 exact this.1⟩
theorem ArAt.withRow (h : ArAt w gd B S) : ArW w gd B S (.slice none 0 0) [] :=
 (Whole.push2 (w := w) (w' := w) (base := 0) ⟨h, arXs_fit _ _ _, Nat.zero_le _, fun _ _ => Nat.zero_le _⟩ (rowC_fit 70 5 (.slice none 0 0) []) (Only.refl _ _) ⟨rfl, RowS.nil _ _ _⟩ (by simp [Value.ownBlock]) (by simp [Value.ownBlock])).1
theorem ArW.mark (h : ArW w gd B S v Q) {P : Pool} (ho : Only [B.ps] w w') (hp : PoolAt w' B.p B.ps P) : ArW w' gd B { S with P := P } v Q :=
 Whole.upd2 h (arW_fit _ _ _ _ _) 2 (F := [B.p, B.ps]) (F' := [B.p, B.ps]) (Y := poolC B.p B.ps P) rfl ho (fun b hb => .inl (by simp at hb; simp [hb])) ⟨rfl, hp⟩ (by simp [hp.ne]) (fun b hb => .inl hb)
theorem ArW.set (h : ArW w gd B S v Q) {T : List Link} (ho : Only (B.t :: B.ts) w w') (hp : TabAt w' B.t B.ts T) : ArW w' gd B { S with T := T } v Q :=
 Whole.upd2 h (arW_fit _ _ _ _ _) 5 (F := B.t :: B.ts) (F' := B.t :: B.ts) (Y := tabC B.t B.ts T) rfl ho (fun b hb => .inl hb) ⟨rfl, hp⟩ hp.nd (fun b hb => .inl hb)
theorem ArW.lev (h : ArW w gd B S v Q) {vs : List Value} {Ls : List (List Link)} (ho : Only (B.o :: ownsOf B.ov) w w') (hp : LevAt w' B.o vs Ls) (hn : ∀ c ∈ ownsOf vs, c ∈ ownsOf B.ov ∨ w.heap.size ≤ c) : ArW w' gd { B with ov := vs } { S with Ls := Ls } v Q :=
 Whole.upd2 h (arW_fit _ _ _ _ _) 6 (F := B.o :: ownsOf B.ov) (F' := B.o :: ownsOf vs) (Y := ordC B.o vs Ls) rfl ho (fun b hb => .inl hb) ⟨rfl, hp⟩ hp.nodup (fun b hb => by
  rcases List.mem_cons.1 hb with rfl | hb
  ·exact .inl (by simp)
  ·rcases hn b hb with h | h
   ·exact .inl (List.mem_cons_of_mem _ h)
   ·exact .inr h)
theorem ArW.hd (h : ArW w gd B S v Q) {i j : Nat} (ho : Only [B.a] w w') (hp : Blk w' B.a 198 (arHead B { S with id := i, ver := j })) : ArW w' gd B { S with id := i, ver := j } v Q :=
 Whole.upd2 h (arW_fit _ _ _ _ _) 8 (F := [B.a]) (F' := [B.a]) (Y := blkC B.a 198 (arHead B { S with id := i, ver := j })) rfl ho (fun b hb => .inl hb) ⟨rfl, hp⟩ (by simp) (fun b hb => .inl hb)
theorem ArW.grow (h : ArW w gd B S v Q) {v2 : Value} {Q2 : List Link} (ho : Only v.ownBlock.toList w w') (hp : RowS 70 5 w' v2 (Q2.map linkC)) (hn : ∀ b, v2.ownBlock = some b → v.ownBlock = some b ∨ w.heap.size ≤ b) : ArW w' gd B S v2 Q2 :=
 Whole.upd2 h (arW_fit _ _ _ _ _) 10 (F := v.ownBlock.toList) (F' := v2.ownBlock.toList) (Y := rowC 70 5 v2 (Q2.map linkC)) rfl ho (fun b hb => .inl hb) ⟨rfl, hp⟩ (by cases v2.ownBlock <;> simp) (fun b hb => by
  rcases hn b (own_mem.1 hb) with h | h
  ·exact .inl (own_mem.2 h)
  ·exact .inr h)
theorem ArW.push (h : ArW w gd B S v Q) {lv : Value} {L : List Link} (ho : Only [B.l] w w') (hp : LineAt w' B.l lv L) (hn : ∀ b, lv.ownBlock = some b → w.heap.size ≤ b) : ArW w' gd { B with lv := lv } { S with L := L } v Q :=
 Whole.upd2 h (arW_fit _ _ _ _ _) 7 (F := B.l :: B.lv.ownBlock.toList) (F' := B.l :: lv.ownBlock.toList) (Y := lineC B.l lv L) rfl ho (fun b hb => .inl (by simp at hb; simp [hb])) ⟨rfl, hp⟩ (by
  have hlt := h.line.head.lt
  cases hb : lv.ownBlock with
  | none => simp
  | some b =>
   have := hn b hb
   simp
   omega) (fun b hb => by
  rcases List.mem_cons.1 hb with rfl | hb
  ·exact .inl (by simp)
  ·exact .inr (hn b (own_mem.1 hb)))
end
end Go.Proofs.YtlggichakafkiaaGreat
set_option linter.unusedSectionVars false
namespace Go.Proofs.FuTop
open Go.Sort
variable {α : Type} [Inhabited α]
def Among (d d' : Array α) : Prop := d'.size = d.size ∧ ∀ x, x ∈ d'.toList → x ∈ d.toList
theorem Among.refl (d : Array α) : Among d d := ⟨rfl, fun _ h => h⟩
theorem Among.trans {d e f : Array α} (h : Among d e) (h' : Among e f) : Among d f := ⟨h'.1.trans h.1, fun x hx => h.2 x (h'.2 x hx)⟩
theorem among_swp {d : Array α} {i j : Nat} (hi : i < d.size) (hj : j < d.size) : Among d (swp d i j) := by
 have key : ∀ t, t < d.size → (swp d i j)[t]! ∈ d.toList := fun t ht => by
  unfold swp
  rw [getElem!_pos _ t (by simpa using ht), Array.getElem_setIfInBounds (by simpa using ht)]
  split
  ·rw [getElem!_pos d i hi]
   simp
  ·rw [Array.getElem_setIfInBounds ht]
   split
   ·rw [getElem!_pos d j hj]
    simp
   ·simp
 refine ⟨size_swp d i j, fun x hx => ?_⟩
 obtain ⟨t, ht, rfl⟩ := List.getElem_of_mem hx
 have ht2 : t < (swp d i j).size := by simpa using ht
 have h := key t (by rw [size_swp] at ht2; exact ht2)
 rw [getElem!_pos _ t ht2] at h
 rw [Array.getElem_toList]
 exact h
def swq (d : Array α) (i j : Nat) : Array α := if i < d.size ∧ j < d.size then swp d i j else d
theorem swq_in {d : Array α} {i j : Nat} (hi : i < d.size) (hj : j < d.size) : swq d i j = swp d i j := if_pos ⟨hi, hj⟩
theorem among_swq (d : Array α) (i j : Nat) : Among d (swq d i j) := by
 unfold swq
 split
 case isTrue h => exact among_swp h.1 h.2
 ·exact Among.refl d
def swapFrom (a b n i : Nat) (d : Array α) : Array α := if i < n then swapFrom a b n (i + 1) (swq d (a + i) (b + i)) else d
termination_by n - i
theorem among_swapFrom (a b n i : Nat) (d : Array α) : Among d (swapFrom a b n i d) := by
 rw [swapFrom]
 split
 ·exact (among_swq d _ _).trans (among_swapFrom a b n (i + 1) _)
 ·exact Among.refl d
termination_by n - i
def rotLoop (m i j : Nat) (d : Array α) : Array α :=
 if i = 0 ∨ j = 0 then d else
 if i = j then swapFrom (m - i) m i 0 d
 else if j < i then rotLoop m (i - j) j (swapFrom (m - i) m j 0 d)
 else rotLoop m i (j - i) (swapFrom (m - i) (m + j - i) i 0 d)
termination_by i + j
theorem among_rotLoop (m i j : Nat) (d : Array α) : Among d (rotLoop m i j d) := by
 rw [rotLoop]
 split
 ·exact Among.refl d
 split
 ·exact among_swapFrom _ _ _ _ _
 split
 ·exact (among_swapFrom _ _ _ _ _).trans (among_rotLoop m (i - j) j _)
 ·exact (among_swapFrom _ _ _ _ _).trans (among_rotLoop m i (j - i) _)
termination_by i + j
section
variable (lt : α → α → Bool)
def bsLow (d : Array α) (x i j : Nat) : Nat := if i < j then if lt d[(i + j) / 2]! d[x]! = true then bsLow d x ((i + j) / 2 + 1) j else bsLow d x i ((i + j) / 2) else i
termination_by j - i
def bsHigh (d : Array α) (x i j : Nat) : Nat := if i < j then if lt d[x]! d[(i + j) / 2]! = true then bsHigh d x i ((i + j) / 2) else bsHigh d x ((i + j) / 2 + 1) j else i
termination_by j - i
def bsSym (d : Array α) (p i j : Nat) : Nat := if i < j then if lt d[p - (i + j) / 2]! d[(i + j) / 2]! = true then bsSym d p i ((i + j) / 2) else bsSym d p ((i + j) / 2 + 1) j else i
termination_by j - i
theorem bsLow_le (d : Array α) (x i j : Nat) (h : i ≤ j) : i ≤ bsLow lt d x i j ∧ bsLow lt d x i j ≤ j := by
 rw [bsLow]
 split
 ·split
  ·have := bsLow_le d x ((i + j) / 2 + 1) j (by omega)
   omega
  ·have := bsLow_le d x i ((i + j) / 2) (by omega)
   omega
 ·omega
termination_by j - i
theorem bsSym_le (d : Array α) (p i j : Nat) (h : i ≤ j) : i ≤ bsSym lt d p i j ∧ bsSym lt d p i j ≤ j := by
 rw [bsSym]
 split
 ·split
  ·have := bsSym_le d p i ((i + j) / 2) (by omega)
   omega
  ·have := bsSym_le d p ((i + j) / 2 + 1) j (by omega)
   omega
 ·omega
termination_by j - i
end
def goUp (i k : Nat) (d : Array α) : Array α := if k + 1 < i then goUp i (k + 1) (swq d k (k + 1)) else d
termination_by i - k
def goDown (i k : Nat) (d : Array α) : Array α := if i < k then goDown i (k - 1) (swq d k (k - 1)) else d
termination_by k
theorem among_goUp (i k : Nat) (d : Array α) : Among d (goUp i k d) := by
 rw [goUp]
 split
 ·exact (among_swq d _ _).trans (among_goUp i (k + 1) _)
 ·exact Among.refl d
termination_by i - k
theorem among_goDown (i k : Nat) (d : Array α) : Among d (goDown i k d) := by
 rw [goDown]
 split
 ·exact (among_swq d _ _).trans (among_goDown i (k - 1) _)
 ·exact Among.refl d
termination_by k
section
variable (lt : α → α → Bool)
def symFrom (a m b : Nat) : Nat := if (a + b) / 2 < m then (a + b) / 2 + m - b else a
def symTo (a m b : Nat) : Nat := if (a + b) / 2 < m then (a + b) / 2 else m
def symAt (d : Array α) (a m b : Nat) : Nat := bsSym lt d ((a + b) / 2 + m - 1) (symFrom a m b) (symTo a m b)
def symRot (d : Array α) (m s e : Nat) : Array α := if s < m ∧ m < e then rotLoop m (m - s) (e - m) d else d
def symMerge : Nat → Nat → Nat → Nat → Array α → Array α
 | 0, _, _, _, d => d
 | f + 1, a, m, b, d =>
  if m - a = 1 then goUp (bsLow lt d a m b) a d
  else if b - m = 1 then goDown (bsHigh lt d m a m) m d
  else
   (fun s => (fun d1 => (fun d2 => if (a + b) / 2 < (a + b) / 2 + m - s ∧ (a + b) / 2 + m - s < b then symMerge f ((a + b) / 2) ((a + b) / 2 + m - s) b d2 else d2)
    (if a < s ∧ s < (a + b) / 2 then symMerge f a s ((a + b) / 2) d1 else d1)) (symRot d m s ((a + b) / 2 + m - s))) (symAt lt d a m b)
theorem among_symRot (d : Array α) (m s e : Nat) : Among d (symRot d m s e) := by
 unfold symRot
 split
 ·exact among_rotLoop _ _ _ _
 ·exact Among.refl d
theorem among_symMerge : ∀ (f a m b : Nat) (d : Array α), Among d (symMerge lt f a m b d)
 | 0, _, _, _, d => Among.refl d
 | f + 1, a, m, b, d => by
  unfold symMerge
  split
  ·exact among_goUp _ _ _
  ·split
   ·exact among_goDown _ _ _
   ·have h1 := among_symRot d m (symAt lt d a m b) ((a + b) / 2 + m - symAt lt d a m b)
    have h2 : Among d (if a < symAt lt d a m b ∧ symAt lt d a m b < (a + b) / 2 then symMerge lt f a (symAt lt d a m b) ((a + b) / 2) (symRot d m (symAt lt d a m b) ((a + b) / 2 + m - symAt lt d a m b)) else symRot d m (symAt lt d a m b) ((a + b) / 2 + m - symAt lt d a m b)) := by
     split
     ·exact h1.trans (among_symMerge f _ _ _ _)
     ·exact h1
    show Among d (if _ then _ else _)
    split
    ·exact h2.trans (among_symMerge f _ _ _ _)
    ·exact h2
def symD2 (f a s q : Nat) (d : Array α) : Array α := if a < s ∧ s < q then symMerge lt f a s q d else d
def symD3 (f q e b : Nat) (d : Array α) : Array α := if q < e ∧ e < b then symMerge lt f q e b d else d
theorem symMerge_eq {f a m b : Nat} (d : Array α) (h1 : ¬ m - a = 1) (h2 : ¬ b - m = 1) : symMerge lt (f + 1) a m b d =
  symD3 lt f ((a + b) / 2) ((a + b) / 2 + m - symAt lt d a m b) b (symD2 lt f a (symAt lt d a m b) ((a + b) / 2) (symRot d m (symAt lt d a m b) ((a + b) / 2 + m - symAt lt d a m b))) := by
 rw [symMerge, if_neg h1, if_neg h2]
 rfl
theorem symAt_le {a m b : Nat} (d : Array α) (h1 : a < m) (h2 : m < b) : symFrom a m b ≤ symAt lt d a m b ∧ symAt lt d a m b ≤ symTo a m b := by
 refine bsSym_le lt d _ _ _ ?_
 unfold symFrom symTo
 split <;> omega
def insBlocks (n a : Nat) (d : Array α) : Array α := if a + 20 ≤ n then insBlocks n (a + 20) (insertionSort lt d a (a + 20)) else insertionSort lt d a n
termination_by n - a
def mergeRow (s n a : Nat) (d : Array α) : Array α :=
 if 0 < s ∧ a + 2 * s ≤ n then mergeRow s n (a + 2 * s) (symMerge lt (2 * s) a (a + s) (a + 2 * s) d)
 else if a + s < n then symMerge lt (n - a) a (a + s) n d else d
termination_by n - a
def mergeAll (s n : Nat) (d : Array α) : Array α := if 0 < s ∧ s < n then mergeAll (s * 2) n (mergeRow lt s n 0 d) else d
termination_by n - s
def stable (d : Array α) : Array α := mergeAll lt 20 d.size (insBlocks lt d.size 0 d)
theorem among_insInner (a : Nat) : ∀ (j : Nat) (d : Array α), j < d.size → Among d (insInner lt a j d)
 | 0, d, _ => Among.refl d
 | j + 1, d, h => by
  unfold insInner
  split
  ·exact (among_swp h (by omega)).trans (among_insInner a j _ (by rw [size_swp]; omega))
  ·exact Among.refl d
theorem among_insOuter (a b i : Nat) (d : Array α) (hb : b ≤ d.size) : Among d (insOuter lt a b i d) := by
 rw [insOuter]
 split
 ·have h1 := among_insInner lt a i d (by omega)
  exact h1.trans (among_insOuter a b (i + 1) _ (by rw [h1.1]; exact hb))
 ·exact Among.refl d
termination_by b - i
theorem among_insertionSort (a b : Nat) (d : Array α) (hb : b ≤ d.size) : Among d (insertionSort lt d a b) := among_insOuter lt a b _ d hb
theorem among_insBlocks (n a : Nat) (d : Array α) (hn : n ≤ d.size) : Among d (insBlocks lt n a d) := by
 rw [insBlocks]
 split
 ·have h1 := among_insertionSort lt a (a + 20) d (by omega)
  exact h1.trans (among_insBlocks n (a + 20) _ (by rw [h1.1]; exact hn))
 ·exact among_insertionSort lt a n d hn
termination_by n - a
theorem among_mergeRow (s n a : Nat) (d : Array α) : Among d (mergeRow lt s n a d) := by
 rw [mergeRow]
 split
 ·exact (among_symMerge lt _ _ _ _ d).trans (among_mergeRow s n (a + 2 * s) _)
 split
 ·exact among_symMerge lt _ _ _ _ d
 ·exact Among.refl d
termination_by n - a
theorem among_mergeAll (s n : Nat) (d : Array α) : Among d (mergeAll lt s n d) := by
 rw [mergeAll]
 split
 ·exact (among_mergeRow lt _ _ _ d).trans (among_mergeAll (s * 2) n _)
 ·exact Among.refl d
termination_by n - s
theorem among_stable (d : Array α) : Among d (stable lt d) := (among_insBlocks lt _ _ d (Nat.le_refl _)).trans (among_mergeAll lt _ _ _)
end
def stableL (lt : α → α → Bool) (l : List α) : List α := (stable lt l.toArray).toList
theorem stableL_mem (lt : α → α → Bool) {l : List α} {x : α} (h : x ∈ stableL lt l) : x ∈ l := by
 have := (among_stable lt l.toArray).2 x h
 simpa using this
theorem stableL_len (lt : α → α → Bool) (l : List α) : (stableL lt l).length = l.length := by
 have := (among_stable lt l.toArray).1
 simpa [stableL] using this
end Go.Proofs.FuTop
namespace Go.Proofs.YtlggichakafkiaaGreat
open Go.BigFrame Go.RowKit Go.Proofs.FuMem Go.Proofs.FuTop Go.Sort Go.Lib Go.Shelf
set_option maxRecDepth 100000
set_option maxHeartbeats 4000000 in
theorem sort_swapRange (k : Nat) (zE : ∀ w, (Go.sizeOf 70).run Tryz.prog w = .ok k w) (g : Nat) (cb : Array Value) (blk cap n : Nat) (d0 d : Array Link) (w0 w : World) (R : RowK linkC k w0 blk 0 d0) (hs : d0.size = n) (hd : d.size = n) (S : SWK linkC k w0 blk 0 d w) (hsz : n ≤ 100000) (a b m : Nat) (za zb zm : Int) (hza : za = a) (hzb : zb = b) (hzm : zm = m) (ha : a + m ≤ n) (hb : b + m ≤ n) :
  Calls Tryz.prog 406 #[.slice (some ⟨blk, 0, none⟩) n cap, .int .i64 za, .int .i64 zb, .int .i64 zm, .func (.func g) #[] cb] w fun e w' => e = .returned (.tuple #[]) ∧ SWK linkC k w0 blk 0 (swapFrom a b m 0 d) w' := by
 subst hza hzb hzm
 have S0 : Aside (SWK linkC k w0 blk 0 d w) := S
 clear S
 go_enter Tryz.func406, Tryz.ntmps406
 go_wp2
 go_loopg [10] m (fun kx si wr => ∃ (i : Nat) (dk : Array Link), si = .int .i64 i ∧ i ≤ m ∧ m - i ≤ kx ∧ dk.size = n ∧ Aside (SWK linkC k w0 blk 0 dk wr) ∧ Hid (swapFrom a b m i dk = swapFrom a b m 0 d))
 case atStart => exact ⟨0, d, rfl, by omega, by omega, hd, S0, rfl⟩
 case round =>
  clear S0
  obtain ⟨i, dk, rfl, him, hkx, hds, S1, HE⟩ := hrel
  by_cases hlt : i < m
  ·have hz : (i : Int) < (m : Int) := by omega
   have HU : Hid (swapFrom a b m i dk = swapFrom a b m (i + 1) (swp dk (a + i) (b + i))) := by show _ = _; conv => lhs; rw [swapFrom, if_pos hlt, swq_in (by omega) (by omega)]
   have ea1 : ((a : Int) + (i : Int)).toNat = a + i := by omega
   have pa1 : (0 : Int) ≤ (a : Int) + (i : Int) := by omega
   have ba1 : (a : Int) + (i : Int) < (n : Int) := by omega
   have ra1 : IntKind.i64.wrap ((a : Int) + (i : Int)) = (a : Int) + (i : Int) := by rw [IntKind.wrap_i64]; omega
   have ec1 : ((b : Int) + (i : Int)).toNat = b + i := by omega
   have pc1 : (0 : Int) ≤ (b : Int) + (i : Int) := by omega
   have bc1 : (b : Int) + (i : Int) < (n : Int) := by omega
   have rc1 : IntKind.i64.wrap ((b : Int) + (i : Int)) = (b : Int) + (i : Int) := by rw [IntKind.wrap_i64]; omega
   have S2 : Aside (SWK linkC k w0 blk 0 (swp dk (a + i) (b + i)) ((wr.drew.setCells blk (0 + (a + i) * k) (linkC dk[b + i]!)).setCells blk (0 + (b + i) * k) (linkC dk[a + i]!))) := S1.out.swapped R (a + i) (b + i) (by omega) (by omega)
   have l1a := S1.out.ld1 R (by omega) Tryz.prog (a + i) (by omega)
   have l1b := S1.out.ld1 R (by omega) Tryz.prog (b + i) (by omega)
   have s1a := S1.out.st1 R (by omega) Tryz.prog (a + i) (by omega) dk[b + i]!
   have s1b := S1.out.st2 R (by omega) Tryz.prog (a + i) (b + i) (by omega) (by omega) dk[b + i]! dk[a + i]!
   have n1a : (linkC dk[a + i]!).length = k := R.hk _
   have n1b : (linkC dk[b + i]!).length = k := R.hk _
   generalize linkC dk[a + i]! = cI1 at S2 l1a s1b n1a
   generalize linkC dk[b + i]! = cJ1 at S2 l1b s1a s1b n1b
   clear S1
   simp only [Nat.zero_add] at S2 l1a l1b s1a s1b
   have mixed : Tryz.prog.follows Departure.mixedOrders = true := by kernel_rfl
   go_wp2_with fail
   go_big_region_o
   clear l1a l1b s1a s1b
   generalize (wr.drew.setCells blk ((a + i) * k) cJ1).setCells blk ((b + i) * k) cI1 = w2 at S2 ⊢
   go_wp2
   go_roundg (m - (i + 1))
   case measure => omega
   case rel => exact ⟨i + 1, swp dk (a + i) (b + i), by go_num, by omega, Nat.le_refl _, by rw [size_swp]; exact hds, S2, (show Hid _ from HU.out.symm.trans HE.out)⟩
  ·have hz : ¬ (i : Int) < (m : Int) := by omega
   go_wp2
   go_end0
   refine ⟨rfl, ?_⟩
   rw [← HE.out, swapFrom, if_neg hlt]
   exact S1.out
set_option maxHeartbeats 4000000 in
theorem sort_rotate (k : Nat) (zE : ∀ w, (Go.sizeOf 70).run Tryz.prog w = .ok k w) (g : Nat) (cb : Array Value) (blk cap n : Nat) (d0 d : Array Link) (w0 w : World) (R : RowK linkC k w0 blk 0 d0) (hs : d0.size = n) (hd : d.size = n) (S : SWK linkC k w0 blk 0 d w) (hsz : n ≤ 100000) (a m b : Nat) (za zm zb : Int) (hza : za = a) (hzm : zm = m) (hzb : zb = b) (ham : a < m) (hmb : m < b) (hb : b ≤ n) :
  Calls Tryz.prog 382 #[.slice (some ⟨blk, 0, none⟩) n cap, .int .i64 za, .int .i64 zm, .int .i64 zb, .func (.func g) #[] cb] w fun e w' => e = .returned (.tuple #[]) ∧ SWK linkC k w0 blk 0 (rotLoop m (m - a) (b - m) d) w' := by
 subst hza hzb hzm
 have S0 : Aside (SWK linkC k w0 blk 0 d w) := S
 clear S
 have RR := hq9 R
 clear R
 go_enter Tryz.func382, Tryz.ntmps382
 go_wp2
 go_loopg [10, 11] (2 * n) (fun kx si sj wr => ∃ (i j : Nat) (zi zj : Int) (dk : Array Link), si = .int .i64 zi ∧ sj = .int .i64 zj ∧ zi = i ∧ zj = j ∧ 0 < i ∧ 0 < j ∧ i ≤ m ∧ m + j ≤ n ∧ i + j ≤ kx ∧ dk.size = n ∧ Aside (SWK linkC k w0 blk 0 dk wr) ∧ Hid (rotLoop m i j dk = rotLoop m (m - a) (b - m) d))
 case atStart => exact ⟨m - a, b - m, _, _, d, rfl, rfl, by omega, by omega, by omega, by omega, by omega, by omega, by omega, hd, S0, rfl⟩
 case round =>
  clear S0
  obtain ⟨i, j, zi, zj, dk, rfl, rfl, rfl, rfl, hi0, hj0, him, hmj, hkx, hds, S1, HE⟩ := hrel
  have w1 : IntKind.i64.wrap ((m : Int) - (i : Int)) = (m : Int) - (i : Int) := by rw [IntKind.wrap_i64]; omega
  have w2 : IntKind.i64.wrap ((i : Int) - (j : Int)) = (i : Int) - (j : Int) := by rw [IntKind.wrap_i64]; omega
  have w3 : IntKind.i64.wrap ((j : Int) - (i : Int)) = (j : Int) - (i : Int) := by rw [IntKind.wrap_i64]; omega
  have w4 : IntKind.i64.wrap ((m : Int) + (j : Int) - (i : Int)) = (m : Int) + (j : Int) - (i : Int) := by rw [IntKind.wrap_i64]; omega
  have R := RR.out
  by_cases heq : i = j
  ·subst heq
   have HU : Hid (rotLoop m i i dk = swapFrom (m - i) m i 0 dk) := by show _ = _; rw [rotLoop, if_neg (by omega), if_pos rfl]
   have RQ := hq9 R
   clear R
   go_wp2_with fail
   refine (sort_swapRange k zE g cb blk cap n d0 dk w0 _ RQ.out hs hds S1.out hsz (m - i) m i _ _ _ (by omega) (by omega) (by omega) (by omega) (by omega)).mono ?_
   rintro e w5 ⟨rfl, s2⟩
   have S2 := hq9 s2
   clear s2
   go_wp2
   go_end0
   refine ⟨rfl, ?_⟩
   rw [← HE.out, HU.out]
   exact S2.out
  ·have hne : ((i : Int) == (j : Int)) = false := by simpa using fun h : (i : Int) = (j : Int) => heq (by omega)
   have hne2 : ¬ (i : Int) = (j : Int) := by omega
   by_cases hgt : j < i
   ·have hz : (j : Int) < (i : Int) := by omega
    have HU : Hid (rotLoop m i j dk = rotLoop m (i - j) j (swapFrom (m - i) m j 0 dk)) := by show _ = _; conv => lhs; rw [rotLoop, if_neg (by omega), if_neg heq, if_pos hgt]
    have RQ := hq9 R
    clear R
    go_wp2_with fail
    refine (sort_swapRange k zE g cb blk cap n d0 dk w0 _ RQ.out hs hds S1.out hsz (m - i) m j _ _ _ (by omega) (by omega) (by omega) (by omega) (by omega)).mono ?_
    rintro e w5 ⟨rfl, s2⟩
    have S2 : Aside (SWK linkC k w0 blk 0 (swapFrom (m - i) m j 0 dk) w5) := s2
    clear s2
    go_wp2
    go_roundg (i + j - 1)
    case measure => omega
    case rel => exact ⟨i - j, j, _, _, swapFrom (m - i) m j 0 dk, rfl, rfl, by omega, rfl, by omega, by omega, by omega, by omega, by omega, (among_swapFrom _ _ _ _ _).1.trans hds, S2, (show Hid _ from HU.out.symm.trans HE.out)⟩
   ·have hz : ¬ (j : Int) < (i : Int) := by omega
    have HU : Hid (rotLoop m i j dk = rotLoop m i (j - i) (swapFrom (m - i) (m + j - i) i 0 dk)) := by show _ = _; conv => lhs; rw [rotLoop, if_neg (by omega), if_neg heq, if_neg hgt]
    have RQ := hq9 R
    clear R
    go_wp2_with fail
    refine (sort_swapRange k zE g cb blk cap n d0 dk w0 _ RQ.out hs hds S1.out hsz (m - i) (m + j - i) i _ _ _ (by omega) (by omega) (by omega) (by omega) (by omega)).mono ?_
    rintro e w5 ⟨rfl, s2⟩
    have S2 : Aside (SWK linkC k w0 blk 0 (swapFrom (m - i) (m + j - i) i 0 dk) w5) := s2
    clear s2
    go_wp2
    go_roundg (i + j - 1)
    case measure => omega
    case rel => exact ⟨i, j - i, _, _, swapFrom (m - i) (m + j - i) i 0 dk, rfl, rfl, rfl, by omega, by omega, by omega, by omega, by omega, by omega, (among_swapFrom _ _ _ _ _).1.trans hds, S2, (show Hid _ from HU.out.symm.trans HE.out)⟩
end Go.Proofs.YtlggichakafkiaaGreat
namespace Go.Proofs.YtlggichakafkiaaGreat
open Go.BigFrame Go.RowKit Go.Proofs.FuMem Go.Proofs.FuTop Go.Sort Go.Lib Go.Shelf
set_option maxRecDepth 100000
set_option maxHeartbeats 8000000 in
theorem symMerge_low (cf : Link → Link → Int) (k : Nat) (zE : ∀ w, (Go.sizeOf 70).run Tryz.prog w = .ok k w) (g : Nat) (cb : Array Value) (blk cap n : Nat) (d0 : Array Link) (w0 : World) (R : RowK linkC k w0 blk 0 d0) (hs : d0.size = n) (hsz : n ≤ 100000) (eg : ∀ args w, (callFunc g args).run Tryz.prog w = .ok (.enter g args) w) (hcmp : CmpLays Tryz.prog g cb linkC k cf blk 0 n w0) (a m b : Nat) (za zm zb : Int) (d : Array Link) (w : World) (hza : za = a) (hzm : zm = m) (hzb : zb = b) (ham : a < m) (hmb : m < b) (hb : b ≤ n) (hd : d.size = n) (S : SWK linkC k w0 blk 0 d w) (h1 : m - a = 1) :
  Calls Tryz.prog 350 #[.slice (some ⟨blk, 0, none⟩) n cap, .int .i64 za, .int .i64 zm, .int .i64 zb, .func (.func g) #[] cb] w fun e w' => e = .returned (.tuple #[]) ∧ SWK linkC k w0 blk 0 (goUp (bsLow (ltOf cf) d a m b) a d) w' := by
 subst hza hzb hzm
 have S0 : Aside (SWK linkC k w0 blk 0 d w) := S
 have HC : Aside _ := hcmp
 clear S hcmp
 have q1 : (m : Int) - (a : Int) = 1 := by omega
 go_enter Tryz.func350, Tryz.ntmps350
 go_wp2
 go_loopg [10, 11] (b - m) (fun kx si sj wr => ∃ (i j : Nat) (zi zj : Int), si = .int .i64 zi ∧ sj = .int .i64 zj ∧ zi = i ∧ zj = j ∧ m ≤ i ∧ i ≤ j ∧ j ≤ b ∧ j - i ≤ kx ∧ Aside (SWK linkC k w0 blk 0 d wr) ∧ Hid (bsLow (ltOf cf) d a i j = bsLow (ltOf cf) d a m b))
 case atStart => exact ⟨m, b, _, _, rfl, rfl, rfl, rfl, by omega, by omega, by omega, by omega, S0, rfl⟩
 case round =>
  clear S0
  obtain ⟨i, j, zi, zj, rfl, rfl, rfl, rfl, hmi, hij, hjb, hkx, S1, HE⟩ := hrel
  by_cases hlt : i < j
  ·have hz : (i : Int) < (j : Int) := by omega
   have hwr : IntKind.i64.wrap (((i : Int) + (j : Int)) / 2 + 1) = ((i : Int) + (j : Int)) / 2 + 1 := by rw [IntKind.wrap_i64]; omega
   cases hL : ltOf cf d[(i + j) / 2]! d[a]! with
   | true =>
    have HU : Hid (bsLow (ltOf cf) d a i j = bsLow (ltOf cf) d a ((i + j) / 2 + 1) j) := by show _ = _; conv => lhs; rw [bsLow, if_pos hlt, if_pos hL]
    have ea1 : (((i : Int) + (j : Int)) / 2).toNat = (i + j) / 2 := by omega
    have pa1 : (0 : Int) ≤ ((i : Int) + (j : Int)) / 2 := by omega
    have ba1 : ((i : Int) + (j : Int)) / 2 < (n : Int) := by omega
    have ra1 : IntKind.i64.wrap (((i : Int) + (j : Int)) / 2) = ((i : Int) + (j : Int)) / 2 := by rw [IntKind.wrap_i64]; omega
    have ec1 : ((a : Int)).toNat = a := by omega
    have pc1 : (0 : Int) ≤ (a : Int) := by omega
    have bc1 : (a : Int) < (n : Int) := by omega
    have rc1 : IntKind.i64.wrap ((a : Int)) = (a : Int) := by rw [IntKind.wrap_i64]; omega
    obtain ⟨x1, hx1⟩ : ∃ x, x = d[(i + j) / 2]! := ⟨_, rfl⟩
    obtain ⟨y1, hy1⟩ : ∃ x, x = d[a]! := ⟨_, rfl⟩
    have l1a := S1.out.ld R (by omega) Tryz.prog ((i + j) / 2) (by omega)
    have l1b := S1.out.ld R (by omega) Tryz.prog (a) (by omega)
    rw [← hx1] at l1a
    rw [← hy1] at l1b
    have hc1 := S1.out.cmp HC.out (by omega) x1 y1
    have hv1 : cf x1 y1 < 0 := by rw [hx1, hy1]; exact of_decide_eq_true hL
    have hd1 : decide (cf x1 y1 < 0) = true := decide_eq_true hv1
    clear hx1 hy1
    simp only [Nat.zero_add] at l1a l1b
    have mixed : Tryz.prog.follows Departure.mixedOrders = true := by kernel_rfl
    go_wp2_with fail
    go_quiet_grown (first | (go_at_fn g; refine Calls.grown_of (hc1 _ _)))
    have S2 : Aside (SWK linkC k w0 blk 0 d (grow (wr.drewN nq) osq)) := S1.out.grown nq osq
    clear l1a l1b hc1 S1
    generalize grow (wr.drewN nq) osq = w2 at S2 ⊢
    clear nq osq
    go_wp2_with fail
    go_roundg (j - ((i + j) / 2 + 1))
    case measure => omega
    case rel => exact ⟨(i + j) / 2 + 1, j, _, _, rfl, rfl, by omega, rfl, by omega, by omega, by omega, by omega, S2, (show Hid _ from HU.out.symm.trans HE.out)⟩
   | false =>
    have HU : Hid (bsLow (ltOf cf) d a i j = bsLow (ltOf cf) d a i ((i + j) / 2)) := by show _ = _; conv => lhs; rw [bsLow, if_pos hlt, if_neg (by rw [hL]; decide)]
    have ea1 : (((i : Int) + (j : Int)) / 2).toNat = (i + j) / 2 := by omega
    have pa1 : (0 : Int) ≤ ((i : Int) + (j : Int)) / 2 := by omega
    have ba1 : ((i : Int) + (j : Int)) / 2 < (n : Int) := by omega
    have ra1 : IntKind.i64.wrap (((i : Int) + (j : Int)) / 2) = ((i : Int) + (j : Int)) / 2 := by rw [IntKind.wrap_i64]; omega
    have ec1 : ((a : Int)).toNat = a := by omega
    have pc1 : (0 : Int) ≤ (a : Int) := by omega
    have bc1 : (a : Int) < (n : Int) := by omega
    have rc1 : IntKind.i64.wrap ((a : Int)) = (a : Int) := by rw [IntKind.wrap_i64]; omega
    obtain ⟨x1, hx1⟩ : ∃ x, x = d[(i + j) / 2]! := ⟨_, rfl⟩
    obtain ⟨y1, hy1⟩ : ∃ x, x = d[a]! := ⟨_, rfl⟩
    have l1a := S1.out.ld R (by omega) Tryz.prog ((i + j) / 2) (by omega)
    have l1b := S1.out.ld R (by omega) Tryz.prog (a) (by omega)
    rw [← hx1] at l1a
    rw [← hy1] at l1b
    have hc1 := S1.out.cmp HC.out (by omega) x1 y1
    have hv1 : ¬ cf x1 y1 < 0 := by rw [hx1, hy1]; exact of_decide_eq_false hL
    have hd1 : decide (cf x1 y1 < 0) = false := decide_eq_false hv1
    clear hx1 hy1
    simp only [Nat.zero_add] at l1a l1b
    have mixed : Tryz.prog.follows Departure.mixedOrders = true := by kernel_rfl
    go_wp2_with fail
    go_quiet_grown (first | (go_at_fn g; refine Calls.grown_of (hc1 _ _)))
    have S2 : Aside (SWK linkC k w0 blk 0 d (grow (wr.drewN nq) osq)) := S1.out.grown nq osq
    clear l1a l1b hc1 S1
    generalize grow (wr.drewN nq) osq = w2 at S2 ⊢
    clear nq osq
    go_wp2_with fail
    go_roundg ((i + j) / 2 - i)
    case measure => omega
    case rel => exact ⟨i, (i + j) / 2, _, _, rfl, rfl, rfl, by omega, by omega, by omega, by omega, by omega, S2, (show Hid _ from HU.out.symm.trans HE.out)⟩
  ·have hz : ¬ (i : Int) < (j : Int) := by omega
   obtain ⟨p, hp⟩ : ∃ p, p = bsLow (ltOf cf) d a m b := ⟨_, rfl⟩
   have hpi : i = p := by rw [hp, ← HE.out, bsLow, if_neg hlt]
   subst hpi
   have HP := hq9 hp
   clear hp HE
   have hwr : IntKind.i64.wrap ((i : Int) - 1) = (i : Int) - 1 := by rw [IntKind.wrap_i64]; omega
   go_wp2_with fail
   go_loopg [13] i (fun kx sk wr => ∃ (t : Nat) (dk : Array Link), sk = .int .i64 t ∧ a ≤ t ∧ i - t ≤ kx ∧ dk.size = n ∧ Aside (SWK linkC k w0 blk 0 dk wr) ∧ Hid (goUp i t dk = goUp i a d))
   case atStart => exact ⟨a, d, rfl, by omega, by omega, hd, S1, rfl⟩
   case round =>
    clear S1
    obtain ⟨t, dk, rfl, hak, hkx2, hds, S2, HE⟩ := hrel
    by_cases hlt2 : t + 1 < i
    ·have hz2 : (t : Int) < (i : Int) - 1 := by omega
     have HU : Hid (goUp i t dk = goUp i (t + 1) (swp dk t (t + 1))) := by show _ = _; conv => lhs; rw [goUp, if_pos hlt2, swq_in (by omega) (by omega)]
     have ea2 : ((t : Int)).toNat = t := by omega
     have pa2 : (0 : Int) ≤ (t : Int) := by omega
     have ba2 : (t : Int) < (n : Int) := by omega
     have ra2 : IntKind.i64.wrap ((t : Int)) = (t : Int) := by rw [IntKind.wrap_i64]; omega
     have ec2 : ((t : Int) + 1).toNat = t + 1 := by omega
     have pc2 : (0 : Int) ≤ (t : Int) + 1 := by omega
     have bc2 : (t : Int) + 1 < (n : Int) := by omega
     have rc2 : IntKind.i64.wrap ((t : Int) + 1) = (t : Int) + 1 := by rw [IntKind.wrap_i64]; omega
     have S3 : Aside (SWK linkC k w0 blk 0 (swp dk (t) (t + 1)) ((wr.drew.setCells blk (0 + (t) * k) (linkC dk[t + 1]!)).setCells blk (0 + (t + 1) * k) (linkC dk[t]!))) := S2.out.swapped R (t) (t + 1) (by omega) (by omega)
     have l2a := S2.out.ld1 R (by omega) Tryz.prog (t) (by omega)
     have l2b := S2.out.ld1 R (by omega) Tryz.prog (t + 1) (by omega)
     have s2a := S2.out.st1 R (by omega) Tryz.prog (t) (by omega) dk[t + 1]!
     have s2b := S2.out.st2 R (by omega) Tryz.prog (t) (t + 1) (by omega) (by omega) dk[t + 1]! dk[t]!
     have n2a : (linkC dk[t]!).length = k := R.hk _
     have n2b : (linkC dk[t + 1]!).length = k := R.hk _
     generalize linkC dk[t]! = cI2 at S3 l2a s2b n2a
     generalize linkC dk[t + 1]! = cJ2 at S3 l2b s2a s2b n2b
     clear S2
     simp only [Nat.zero_add] at S3 l2a l2b s2a s2b
     have mixed : Tryz.prog.follows Departure.mixedOrders = true := by kernel_rfl
     go_wp2_with fail
     go_big_region_o
     clear l2a l2b s2a s2b
     generalize (wr.drew.setCells blk ((t) * k) cJ2).setCells blk ((t + 1) * k) cI2 = w3 at S3 ⊢
     go_wp2
     go_roundg (i - (t + 1))
     case measure => omega
     case rel => exact ⟨t + 1, swp dk t (t + 1), by go_num, by omega, by omega, by rw [size_swp]; exact hds, S3, (show Hid _ from HU.out.symm.trans HE.out)⟩
    ·have hz2 : ¬ (t : Int) < (i : Int) - 1 := by omega
     go_wp2
     (try simp only [Exit.inBlock, Exit.then]); refine bodyPost_ret (results_none rfl _ _ _) rfl ?_
     refine ⟨rfl, ?_⟩
     rw [← HP.out, ← HE.out, goUp, if_neg hlt2]
     exact S2.out
set_option maxHeartbeats 8000000 in
theorem symMerge_high (cf : Link → Link → Int) (k : Nat) (zE : ∀ w, (Go.sizeOf 70).run Tryz.prog w = .ok k w) (g : Nat) (cb : Array Value) (blk cap n : Nat) (d0 : Array Link) (w0 : World) (R : RowK linkC k w0 blk 0 d0) (hs : d0.size = n) (hsz : n ≤ 100000) (eg : ∀ args w, (callFunc g args).run Tryz.prog w = .ok (.enter g args) w) (hcmp : CmpLays Tryz.prog g cb linkC k cf blk 0 n w0) (a m b : Nat) (za zm zb : Int) (d : Array Link) (w : World) (hza : za = a) (hzm : zm = m) (hzb : zb = b) (ham : a < m) (hmb : m < b) (hb : b ≤ n) (hd : d.size = n) (S : SWK linkC k w0 blk 0 d w) (h1 : ¬ m - a = 1) (h2 : b - m = 1) :
  Calls Tryz.prog 350 #[.slice (some ⟨blk, 0, none⟩) n cap, .int .i64 za, .int .i64 zm, .int .i64 zb, .func (.func g) #[] cb] w fun e w' => e = .returned (.tuple #[]) ∧ SWK linkC k w0 blk 0 (goDown (bsHigh (ltOf cf) d m a m) m d) w' := by
 subst hza hzb hzm
 have S0 : Aside (SWK linkC k w0 blk 0 d w) := S
 have HC : Aside _ := hcmp
 clear S hcmp
 have q1 : ¬ (m : Int) - (a : Int) = 1 := by omega
 have q1b : ((m : Int) - (a : Int) == 1) = false := by simpa using q1
 have q2 : (b : Int) - (m : Int) = 1 := by omega
 go_enter Tryz.func350, Tryz.ntmps350
 go_wp2
 go_loopg [14, 15] (m - a) (fun kx si sj wr => ∃ (i j : Nat) (zi zj : Int), si = .int .i64 zi ∧ sj = .int .i64 zj ∧ zi = i ∧ zj = j ∧ a ≤ i ∧ i ≤ j ∧ j ≤ m ∧ j - i ≤ kx ∧ Aside (SWK linkC k w0 blk 0 d wr) ∧ Hid (bsHigh (ltOf cf) d m i j = bsHigh (ltOf cf) d m a m))
 case atStart => exact ⟨a, m, _, _, rfl, rfl, rfl, rfl, by omega, by omega, by omega, by omega, S0, rfl⟩
 case round =>
  clear S0
  obtain ⟨i, j, zi, zj, rfl, rfl, rfl, rfl, hmi, hij, hjb, hkx, S1, HE⟩ := hrel
  by_cases hlt : i < j
  ·have hz : (i : Int) < (j : Int) := by omega
   have hwr : IntKind.i64.wrap (((i : Int) + (j : Int)) / 2 + 1) = ((i : Int) + (j : Int)) / 2 + 1 := by rw [IntKind.wrap_i64]; omega
   cases hL : ltOf cf d[m]! d[(i + j) / 2]! with
   | true =>
    have HU : Hid (bsHigh (ltOf cf) d m i j = bsHigh (ltOf cf) d m i ((i + j) / 2)) := by show _ = _; conv => lhs; rw [bsHigh, if_pos hlt, if_pos hL]
    have ea1 : ((m : Int)).toNat = m := by omega
    have pa1 : (0 : Int) ≤ (m : Int) := by omega
    have ba1 : (m : Int) < (n : Int) := by omega
    have ra1 : IntKind.i64.wrap ((m : Int)) = (m : Int) := by rw [IntKind.wrap_i64]; omega
    have ec1 : (((i : Int) + (j : Int)) / 2).toNat = (i + j) / 2 := by omega
    have pc1 : (0 : Int) ≤ ((i : Int) + (j : Int)) / 2 := by omega
    have bc1 : ((i : Int) + (j : Int)) / 2 < (n : Int) := by omega
    have rc1 : IntKind.i64.wrap (((i : Int) + (j : Int)) / 2) = ((i : Int) + (j : Int)) / 2 := by rw [IntKind.wrap_i64]; omega
    obtain ⟨x1, hx1⟩ : ∃ x, x = d[m]! := ⟨_, rfl⟩
    obtain ⟨y1, hy1⟩ : ∃ x, x = d[(i + j) / 2]! := ⟨_, rfl⟩
    have l1a := S1.out.ld R (by omega) Tryz.prog (m) (by omega)
    have l1b := S1.out.ld R (by omega) Tryz.prog ((i + j) / 2) (by omega)
    rw [← hx1] at l1a
    rw [← hy1] at l1b
    have hc1 := S1.out.cmp HC.out (by omega) x1 y1
    have hv1 : cf x1 y1 < 0 := by rw [hx1, hy1]; exact of_decide_eq_true hL
    have hd1 : decide (cf x1 y1 < 0) = true := decide_eq_true hv1
    clear hx1 hy1
    simp only [Nat.zero_add] at l1a l1b
    have mixed : Tryz.prog.follows Departure.mixedOrders = true := by kernel_rfl
    go_wp2_with fail
    go_quiet_grown (first | (go_at_fn g; refine Calls.grown_of (hc1 _ _)))
    have S2 : Aside (SWK linkC k w0 blk 0 d (grow (wr.drewN nq) osq)) := S1.out.grown nq osq
    clear l1a l1b hc1 S1
    generalize grow (wr.drewN nq) osq = w2 at S2 ⊢
    clear nq osq
    go_wp2_with fail
    go_roundg ((i + j) / 2 - i)
    case measure => omega
    case rel => exact ⟨i, (i + j) / 2, _, _, rfl, rfl, rfl, by omega, by omega, by omega, by omega, by omega, S2, (show Hid _ from HU.out.symm.trans HE.out)⟩
   | false =>
    have HU : Hid (bsHigh (ltOf cf) d m i j = bsHigh (ltOf cf) d m ((i + j) / 2 + 1) j) := by show _ = _; conv => lhs; rw [bsHigh, if_pos hlt, if_neg (by rw [hL]; decide)]
    have ea1 : ((m : Int)).toNat = m := by omega
    have pa1 : (0 : Int) ≤ (m : Int) := by omega
    have ba1 : (m : Int) < (n : Int) := by omega
    have ra1 : IntKind.i64.wrap ((m : Int)) = (m : Int) := by rw [IntKind.wrap_i64]; omega
    have ec1 : (((i : Int) + (j : Int)) / 2).toNat = (i + j) / 2 := by omega
    have pc1 : (0 : Int) ≤ ((i : Int) + (j : Int)) / 2 := by omega
    have bc1 : ((i : Int) + (j : Int)) / 2 < (n : Int) := by omega
    have rc1 : IntKind.i64.wrap (((i : Int) + (j : Int)) / 2) = ((i : Int) + (j : Int)) / 2 := by rw [IntKind.wrap_i64]; omega
    obtain ⟨x1, hx1⟩ : ∃ x, x = d[m]! := ⟨_, rfl⟩
    obtain ⟨y1, hy1⟩ : ∃ x, x = d[(i + j) / 2]! := ⟨_, rfl⟩
    have l1a := S1.out.ld R (by omega) Tryz.prog (m) (by omega)
    have l1b := S1.out.ld R (by omega) Tryz.prog ((i + j) / 2) (by omega)
    rw [← hx1] at l1a
    rw [← hy1] at l1b
    have hc1 := S1.out.cmp HC.out (by omega) x1 y1
    have hv1 : ¬ cf x1 y1 < 0 := by rw [hx1, hy1]; exact of_decide_eq_false hL
    have hd1 : decide (cf x1 y1 < 0) = false := decide_eq_false hv1
    clear hx1 hy1
    simp only [Nat.zero_add] at l1a l1b
    have mixed : Tryz.prog.follows Departure.mixedOrders = true := by kernel_rfl
    go_wp2_with fail
    go_quiet_grown (first | (go_at_fn g; refine Calls.grown_of (hc1 _ _)))
    have S2 : Aside (SWK linkC k w0 blk 0 d (grow (wr.drewN nq) osq)) := S1.out.grown nq osq
    clear l1a l1b hc1 S1
    generalize grow (wr.drewN nq) osq = w2 at S2 ⊢
    clear nq osq
    go_wp2_with fail
    go_roundg (j - ((i + j) / 2 + 1))
    case measure => omega
    case rel => exact ⟨(i + j) / 2 + 1, j, _, _, rfl, rfl, by omega, rfl, by omega, by omega, by omega, by omega, S2, (show Hid _ from HU.out.symm.trans HE.out)⟩
  ·have hz : ¬ (i : Int) < (j : Int) := by omega
   obtain ⟨p, hp⟩ : ∃ p, p = bsHigh (ltOf cf) d m a m := ⟨_, rfl⟩
   have hpi : i = p := by rw [hp, ← HE.out, bsHigh, if_neg hlt]
   subst hpi
   have HP := hq9 hp
   clear hp HE
   go_wp2_with fail
   go_loopg [17] m (fun kx sk wr => ∃ (t : Nat) (zk : Int) (dk : Array Link), sk = .int .i64 zk ∧ zk = t ∧ i ≤ t ∧ t ≤ m ∧ t - i ≤ kx ∧ dk.size = n ∧ Aside (SWK linkC k w0 blk 0 dk wr) ∧ Hid (goDown i t dk = goDown i m d))
   case atStart => exact ⟨m, _, d, rfl, rfl, by omega, by omega, by omega, hd, S1, rfl⟩
   case round =>
    clear S1
    obtain ⟨t, zk, dk, rfl, rfl, hak, hkm, hkx2, hds, S2, HE⟩ := hrel
    by_cases hlt2 : i < t
    ·have hz2 : (i : Int) < (t : Int) := by omega
     have HU : Hid (goDown i t dk = goDown i (t - 1) (swp dk t (t - 1))) := by show _ = _; conv => lhs; rw [goDown, if_pos hlt2, swq_in (by omega) (by omega)]
     have ea2 : ((t : Int)).toNat = t := by omega
     have pa2 : (0 : Int) ≤ (t : Int) := by omega
     have ba2 : (t : Int) < (n : Int) := by omega
     have ra2 : IntKind.i64.wrap ((t : Int)) = (t : Int) := by rw [IntKind.wrap_i64]; omega
     have ec2 : ((t : Int) - 1).toNat = t - 1 := by omega
     have pc2 : (0 : Int) ≤ (t : Int) - 1 := by omega
     have bc2 : (t : Int) - 1 < (n : Int) := by omega
     have rc2 : IntKind.i64.wrap ((t : Int) - 1) = (t : Int) - 1 := by rw [IntKind.wrap_i64]; omega
     have S3 : Aside (SWK linkC k w0 blk 0 (swp dk (t) (t - 1)) ((wr.drew.setCells blk (0 + (t) * k) (linkC dk[t - 1]!)).setCells blk (0 + (t - 1) * k) (linkC dk[t]!))) := S2.out.swapped R (t) (t - 1) (by omega) (by omega)
     have l2a := S2.out.ld1 R (by omega) Tryz.prog (t) (by omega)
     have l2b := S2.out.ld1 R (by omega) Tryz.prog (t - 1) (by omega)
     have s2a := S2.out.st1 R (by omega) Tryz.prog (t) (by omega) dk[t - 1]!
     have s2b := S2.out.st2 R (by omega) Tryz.prog (t) (t - 1) (by omega) (by omega) dk[t - 1]! dk[t]!
     have n2a : (linkC dk[t]!).length = k := R.hk _
     have n2b : (linkC dk[t - 1]!).length = k := R.hk _
     generalize linkC dk[t]! = cI2 at S3 l2a s2b n2a
     generalize linkC dk[t - 1]! = cJ2 at S3 l2b s2a s2b n2b
     clear S2
     simp only [Nat.zero_add] at S3 l2a l2b s2a s2b
     have mixed : Tryz.prog.follows Departure.mixedOrders = true := by kernel_rfl
     go_wp2_with fail
     go_big_region_o
     clear l2a l2b s2a s2b
     generalize (wr.drew.setCells blk ((t) * k) cJ2).setCells blk ((t - 1) * k) cI2 = w3 at S3 ⊢
     go_wp2
     go_roundg (t - 1 - i)
     case measure => omega
     case rel => exact ⟨t - 1, _, swp dk t (t - 1), rfl, by omega, by omega, by omega, by omega, by rw [size_swp]; exact hds, S3, (show Hid _ from HU.out.symm.trans HE.out)⟩
    ·have hz2 : ¬ (i : Int) < (t : Int) := by omega
     go_wp2
     (try simp only [Exit.inBlock, Exit.then]); refine bodyPost_ret (results_none rfl _ _ _) rfl ?_
     refine ⟨rfl, ?_⟩
     rw [← HP.out, ← HE.out, goDown, if_neg hlt2]
     exact S2.out
end Go.Proofs.YtlggichakafkiaaGreat