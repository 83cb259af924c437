/- A device's revival, from its beginning to its end. -/
import Derived.Deep.Matrix
import Derived.Test.YtlggichakafkiaaGreatGTopHostile1
import Derived.Test.YtlggichakafkiaaGreatGTopHostile2
import Derived.Test.YtlggichakafkiaaGreatGTopHostile3
import Derived.Test.YtlggichakafkiaaGreatGTopHostile4
import Derived.Test.YtlggichakafkiaaGreatGTopHostile5
import Derived.Test.YtlggichakafkiaaGreatGTopHostile6
import Derived.Test.YtlggichakafkiaaGreatGTopHostile7
import Derived.Test.YtlggichakafkiaaGreatGTopHostile8
import Derived.Test.YtlggichakafkiaaGreatGTopHostile9
import Derived.Test.YtlggichakafkiaaGreatGTopHostile10
import Derived.Test.YtlggichakafkiaaGreatGTopHostile11
set_option linter.unusedSimpArgs false
set_option linter.unusedVariables false
namespace Go.Proofs.FuTop
open Go.Proofs.FuClass Go.Proofs.FuBlock Go.Proofs.FuPool
theorem overAll_good : ∀ {l : List Found} {A A1 : Ar} {i : Nat}, ArGood A i → (∀ x ∈ l, Bd x) → overAll A l = some A1 → ArGood A1 (i + l.length)
 | [], A, A1, i, hg, _, h => by
   injection h with h
   subst h
   exact hg
 | x :: l, A, A1, i, hg, hb, h => by
   unfold overAll at h
   cases h1 : over1 A x with
   | none => rw [h1] at h; cases h
   | some A2 =>
     rw [h1] at h
     have := overAll_good (over1_good hg (hb x (by simp)) h1) (fun y hy => hb y (by simp [hy])) h
     rw [List.length_cons]
     rw [show i + (l.length + 1) = i + 1 + l.length by omega]
     exact this
theorem overOf_few {srt : List Link → List Link} (hl : ∀ l, (srt l).length = l.length) {n : Nat} {l : List Found} {A : Ar} (hb : ∀ x ∈ l, Bd x) (h : overOf srt n l = some A) : A.tab.length ≤ l.length ∧ A.line.length ≤ l.length := by
 unfold overOf at h
 split at h
 ·cases h
 cases h1 : overAll (emptyA n) l with
 | none => rw [h1] at h; cases h
 | some A1 =>
   rw [h1] at h
   injection h with h
   subst h
   have hg := overAll_good (emptyA_good n) hb h1
   exact ⟨by show A1.tab.length ≤ _; have := hg.few; omega, by show (srt A1.line).length ≤ _; rw [hl]; have := hg.fewq; omega⟩
theorem found_cls {B : Nat → List UInt8} {k : Nat} : ∀ x ∈ foundTo B k, 0 ≤ x.b.cls ∧ x.b.cls ≤ 3 := fun _ hx => ⟨(found_bd hx).c0, (found_bd hx).c3⟩
end Go.Proofs.FuTop
namespace Go.Proofs.YtlggichakafkiaaGreat
open Go.BigFrame Go.RowKit Go.Proofs.FuMem Go.Proofs.FuTop Go.Proofs.FuNvm Go.Proofs.FuBlock Go.Proofs.FuClass
set_option maxRecDepth 100000
def RevAns (gd cb cap N : Nat) (B : Nat → List UInt8) (w w' : World) (r : Ending) : Prop := match revives srtL N B with
 | none => r = .returned (.tuple #[.bool false, .agg #[.slice none 0 0, .slice none 0 0], .bool true]) ∧ ∃ D', DevAt w' gd cb cap D' ∧ D'.lines.length = N ∧ Calm D' ∧ bytesAt D' = B
 | some (e, F, A) => ∃ (D' : Dev) (pv qv : Value), r = .returned (.tuple #[.bool true, .agg #[pv, qv], .bool true]) ∧ DevAt w' gd cb cap D' ∧ D'.lines.length = N ∧ Calm D' ∧ Scr F (fun x => keeps e F x = false) B (bytesAt D') ∧ RowS 118 2 w' pv ((shelfOf (bytesAt D') A.tab A.line).pairs.map pairC) ∧ RowS 9 1 w' qv ((shelfOf (bytesAt D') A.tab A.line).queue.map textC) ∧ (∀ b, pv.ownBlock = some b → w.heap.size ≤ b) ∧ (∀ b, qv.ownBlock = some b → w.heap.size ≤ b) ∧ (shelfOf (bytesAt D') A.tab A.line).pairs.length ≤ 1000 ∧ (shelfOf (bytesAt D') A.tab A.line).queue.length ≤ 1000
theorem RevAns.no {gd cb cap N : Nat} {B : Nat → List UInt8} {w w' : World} {D' : Dev} (h : revives srtL N B = none) (hd : DevAt w' gd cb cap D') (hl : D'.lines.length = N) (hc : Calm D') (hb : bytesAt D' = B) : RevAns gd cb cap N B w w' (.returned (.tuple #[.bool false, .agg #[.slice none 0 0, .slice none 0 0], .bool true])) := by
 unfold RevAns
 rw [h]
 exact ⟨rfl, D', hd, hl, hc, hb⟩
theorem RevAns.yes {gd cb cap N : Nat} {B : Nat → List UInt8} {w w' : World} {D' : Dev} {e : Nat} {F : List FuTop.Found} {A : Ar} {pv qv : Value} (h : revives srtL N B = some (e, F, A)) (hd : DevAt w' gd cb cap D') (hl : D'.lines.length = N) (hc : Calm D') (hs : Scr F (fun x => keeps e F x = false) B (bytesAt D')) (hp : RowS 118 2 w' pv ((shelfOf (bytesAt D') A.tab A.line).pairs.map pairC)) (hq : RowS 9 1 w' qv ((shelfOf (bytesAt D') A.tab A.line).queue.map textC)) (ho : ∀ b, pv.ownBlock = some b → w.heap.size ≤ b) (ho' : ∀ b, qv.ownBlock = some b → w.heap.size ≤ b) (hpl : (shelfOf (bytesAt D') A.tab A.line).pairs.length ≤ 1000) (hql : (shelfOf (bytesAt D') A.tab A.line).queue.length ≤ 1000) : RevAns gd cb cap N B w w' (.returned (.tuple #[.bool true, .agg #[pv, qv], .bool true])) := by
 unfold RevAns
 rw [h]
 exact ⟨D', pv, qv, rfl, hd, hl, hc, hs, hp, hq, ho, ho', hpl, hql⟩
def EndAt (N : Nat) (B : Nat → List UInt8) (s : Rv) : Prop := match revives srtL N B with
 | none => s.ph = 7 ∧ s.B = B
 | some (e, F, A) => s.ph = 6 ∧ s.e = e ∧ s.K = keptOf e F ∧ Scr F (fun x => keeps e F x = false) B s.B ∧ overOf srtL N (keptOf e F) = some A
theorem end_at {N k : Nat} {B : Nat → List UInt8} (h1 : 10 ≤ N) (h2 : N ≤ 200) (hk : k = 700 ∨ 6 ≤ (runRv srtL N draftOf k (startRv B)).ph) (hk7 : k ≤ 700) : EndAt N B (runRv srtL N draftOf k (startRv B)) := by
 have hs := slabs_lines h1
 have hs2 : slabsN N ≤ 24 := by omega
 obtain ⟨j, hj, he⟩ := run_end srtL N draftOf (fun c _ _ => draft_kind c) (fun B k => found_cls) hs.1 B
 have hkey : 6 ≤ (runRv srtL N draftOf j (startRv B)).ph := by
  cases hr : revives srtL N B with
  | none => rw [hr] at he; rw [he.1]; decide
  | some p =>
    obtain ⟨e, F, A⟩ := p
    rw [hr] at he
    obtain ⟨B', h, _⟩ := he
    rw [h]
    exact Nat.le_refl _
 have hsame : runRv srtL N draftOf k (startRv B) = runRv srtL N draftOf j (startRv B) := by
  rcases hk with rfl | hk
  ·have : runRv srtL N draftOf (j + (700 - j)) (startRv B) = runRv srtL N draftOf j (startRv B) := by rw [runRv_add, runRv_end srtL N draftOf hkey]
   rwa [show j + (700 - j) = 700 by omega] at this
  ·rcases Nat.le_total k j with h | h
   ·have : runRv srtL N draftOf (k + (j - k)) (startRv B) = runRv srtL N draftOf k (startRv B) := by rw [runRv_add, runRv_end srtL N draftOf hk]
    rw [show k + (j - k) = j by omega] at this
    exact this.symm
   ·have : runRv srtL N draftOf (j + (k - j)) (startRv B) = runRv srtL N draftOf j (startRv B) := by rw [runRv_add, runRv_end srtL N draftOf hkey]
    rwa [show j + (k - j) = k by omega] at this
 rw [hsame]
 unfold EndAt
 cases hr : revives srtL N B with
 | none => rw [hr] at he; exact he
 | some p =>
   obtain ⟨e, F, A⟩ := p
   rw [hr] at he
   obtain ⟨B', h, h3, h4⟩ := he
   rw [h]
   exact ⟨rfl, rfl, rfl, h3, h4⟩
theorem results_tct {fn : Func} {p q u : Tmp} {ty : TypeId} (h : fn.results = #[.tmp p, .cell q ty, .tmp u]) (tmps : Array Value) (w : World) (g : Nat) (cs : Array Value) (a b : Value)
  (hp : tmps.getD p undef = a) (hq : tmps.getD q undef = .pointer (some ⟨g, 0, none⟩)) (hu : tmps.getD u undef = b) (hl : (loadVar ty ⟨g, 0, none⟩).run Tryz.prog w = .ok (.agg cs) w) :
  (results fn tmps).run Tryz.prog w = .ok (.tuple #[a, .agg cs, b]) w := by
 have hp' : tmps[p]?.getD undef = a := by simpa using hp
 have hq' : tmps[q]?.getD undef = .pointer (some ⟨g, 0, none⟩) := by simpa using hq
 have hu' : tmps[u]?.getD undef = b := by simpa using hu
 simp [results, h, hp', hq', hu', asAddr, hl, Result.andThen]
theorem load_shelf {w : World} {g : Nat} {a b : Value} (hb : Blk w g 60 #[a, b]) : (loadVar 60 ⟨g, 0, none⟩).run Tryz.prog w = .ok (.agg #[a, b]) w :=
 run_loadVar_row w g 60 60 #[a, b] (0, 0) _ hb Tryz.underlying60 rfl shelfInfo
set_option maxHeartbeats 4000000 in
theorem top_revived (gd cb cap N : Nat) (D : Dev) (w : World) (hd : DevAt w gd cb cap D) (hl : D.lines.length = N) (h1 : 10 ≤ N) (h2 : N ≤ 200) (hc : Calm D) :
  Calls Tryz.prog 35 #[.pointer (some ⟨gd, 0, none⟩)] w fun r w' => RevAns gd cb cap N (bytesAt D) w w' r ∧ Only [gd, cb] w w' := by
 have HD := hq9 hd
 have HL := hq9 hl
 have HC := hq9 hc
 have BR := hq9 (Blk.new w 60 #[.slice none 0 0, .slice none 0 0])
 have OX := hq9 ((Only.refl [] w).alloc (.cells #[.slice none 0 0, .slice none 0 0] 60))
 have HN := hq9 h1
 have HN2 := hq9 h2
 clear hd hl hc h1 h2
 go_enter Tryz.func35, Tryz.ntmps35
 go_wp2_with fail
 generalize (w.alloc _) = w1 at *
 refine (rv_New gd w1).mono ?_
 rintro r w2 ⟨g, rfl, hb, ho, hg⟩
 have HG := hq9 (show w.heap.size ≠ g from fun e => by have := BR.out.lt; omega)
 have BR2 := hq9 (BR.out.only ho (by simp))
 have RV := hq9 (startAt w1 w2 g gd cb cap N D hb ((HD.out.only0 OX.out).only0 ho) HL.out HC.out (ho.mono (by simp)) hg (Nat.lt_of_lt_of_le HD.out.lt1 OX.out.size) (Nat.lt_of_lt_of_le HD.out.lt2 OX.out.size))
 have HGD := hq9 (show gd ≠ w.heap.size ∧ cb ≠ w.heap.size from ⟨by have := HD.out.lt1; omega, by have := HD.out.lt2; omega⟩)
 have OK0 := hq9 (RvOk.start N (bytesAt D))
 clear hb ho hg
 go_wp2_with fail
 go_loopw [7] (fun vi wr => ∃ i : Nat, vi = .int .i64 i ∧ i ≤ 700 ∧ RvAt w1 g gd cb cap N (runRv srtL N draftOf i (startRv (bytesAt D))) wr) (fun vi _ => 700 - (intOf vi).toNat)
 case atStart => exact ⟨0, rfl, by omega, RV.out⟩
 case round =>
  obtain ⟨i, rfl, hin, hrv⟩ := hrel
  have HRV := hq9 hrv
  have HOK := hq9 (OK0.out.run (srt := srtL) (dr := draftOf) HN.out i)
  obtain ⟨fv, kv, sv, done, why, D1, hm⟩ := hrv
  have HM := hq9 hm
  have HPH := hq9 (rv_Phase g (runRv srtL N draftOf i (startRv (bytesAt D))).ph _ wr hm.head rfl)
  clear hm
  have HEND := hq9 (fun h => end_at (k := i) (B := bytesAt D) HN.out HN2.out h hin)
  have HSUC := hq9 (runRv_succ srtL N draftOf i (startRv (bytesAt D)))
  generalize runRv srtL N draftOf i (startRv (bytesAt D)) = s at *
  have HST := hq9 (rv_step w1 wr g gd cb cap N s HN.out HOK.out HRV.out)
  by_cases hgo : i < 700 ∧ s.ph < 6
  ·obtain ⟨hlt, hph⟩ := hgo
   have q1 : decide ((i : Int) < 700) = true := by go_num
   have q2 : decide ((s.ph : Int) < 6) = true := by go_num
   go_wp2_with fail
   refine HPH.out.mono ?_
   rintro r w' ⟨rfl, rfl⟩
   go_wp2_with fail
   refine HST.out.mono ?_
   rintro r w3 ⟨⟨c, rfl⟩, hrv3⟩
   rw [← HSUC.out] at hrv3
   have HR3 := hq9 hrv3
   clear hrv3
   go_wp2
   go_roundw
   case rel => exact ⟨i + 1, by go_num, by omega, HR3.out⟩
   case measure => simp only [intOf]; omega
  ·have HE := hq9 (HEND.out (by omega))
   have HGO := hq9 hgo
   have HAR := hq9 (rv_Arena g gd s.e s.ph s.nx fv kv done sv why wr HM.out.head)
   have B9 := hq9 (BR.out.only HM.out.only (by simp; exact ⟨fun e => HGD.out.1 e.symm, fun e => HGD.out.2 e.symm⟩))
   have O9 := hq9 ((OX.out.mono (T := [gd, cb]) (by simp)).trans HM.out.only (fun b hb => .inl hb))
   clear hgo
   have k0 := B9.out.cell 0
   have k1 := B9.out.cell 1
   have f0 := B9.out.frozen 0
   have f1 := B9.out.frozen 1
   clear k0 k1 f0 f1
   cases hr : revives srtL N (bytesAt D) with
   | none =>
     have HR := hq9 hr
     have he := HE.out
     unfold EndAt at he
     rw [hr] at he
     have HP7 := hq9 he.1
     have HB7 := hq9 he.2
     clear he hr
     have har := HAR.out
     have hph := HPH.out
     rw [HP7.out, if_neg (by decide), decide_eq_false (by decide)] at har
     rw [HP7.out] at hph
     have HA1 := hq9 har
     have HP1 := hq9 hph
     clear har hph
     by_cases hlt : i < 700
     ·have q1 : decide ((i : Int) < 700) = true := by go_num
      have q2 : decide (((7 : Nat) : Int) < 6) = false := by decide
      go_wp2_with fail
      refine HP1.out.mono ?_
      rintro r w' ⟨rfl, rfl⟩
      go_wp2_with fail
      refine HA1.out.mono ?_
      rintro r w' ⟨rfl, rfl⟩
      go_wp2_with fail
      refine HP1.out.mono ?_
      rintro r w' ⟨rfl, rfl⟩
      go_wp2_with ((with_reducible show wpList _ _ _ (Oper.mk none _ _ _ _ _ :: _) _ _); refine wpList_store_part rfl 60 (.tmp 3) (.tmp 40) rfl w.heap.size 0 [.slice none 0 0, .slice none 0 0] rfl rfl 60 _ B9.out #[.slice none 0 0, .slice none 0 0] rfl (by simp) shelfInfo (one_of rfl) ?_; intro wz hb ho hs; have BZ := hq9 hb; have OZ := hq9 ho; clear hb ho hs)
      refine bodyPost_ret (results_tct rfl _ _ w.heap.size _ _ _ rfl rfl rfl (load_shelf BZ.out)) rfl ⟨RevAns.no HR.out (HM.out.dev.only OZ.out (by simpa using HGD.out.1) (by simpa using HGD.out.2)) HM.out.len (HM.out.calm (by rw [HP7.out]; decide)) (HM.out.bs.trans HB7.out), O9.out.trans OZ.out (fun b hb => .inr (by simp at hb; omega))⟩
     ·have q1 : decide ((i : Int) < 700) = false := by go_num
      go_wp2_with fail
      refine HA1.out.mono ?_
      rintro r w' ⟨rfl, rfl⟩
      go_wp2_with fail
      refine HP1.out.mono ?_
      rintro r w' ⟨rfl, rfl⟩
      go_wp2_with ((with_reducible show wpList _ _ _ (Oper.mk none _ _ _ _ _ :: _) _ _); refine wpList_store_part rfl 60 (.tmp 3) (.tmp 40) rfl w.heap.size 0 [.slice none 0 0, .slice none 0 0] rfl rfl 60 _ B9.out #[.slice none 0 0, .slice none 0 0] rfl (by simp) shelfInfo (one_of rfl) ?_; intro wz hb ho hs; have BZ := hq9 hb; have OZ := hq9 ho; clear hb ho hs)
      refine bodyPost_ret (results_tct rfl _ _ w.heap.size _ _ _ rfl rfl rfl (load_shelf BZ.out)) rfl ⟨RevAns.no HR.out (HM.out.dev.only OZ.out (by simpa using HGD.out.1) (by simpa using HGD.out.2)) HM.out.len (HM.out.calm (by rw [HP7.out]; decide)) (HM.out.bs.trans HB7.out), O9.out.trans OZ.out (fun b hb => .inr (by simp at hb; omega))⟩
   | some p =>
     obtain ⟨e, F, A⟩ := p
     have HR := hq9 hr
     have he := HE.out
     unfold EndAt at he
     rw [hr] at he
     obtain ⟨hp6, hee, hk6, hscr, hov⟩ := he
     clear hr
     obtain ⟨A', BB, Ls, hov', rfl, haa, hfr⟩ := HM.out.up hp6
     rw [hk6, hov] at hov'
     have hAA : A = A' := by injection hov'
     subst hAA
     have HP6 := hq9 hp6
     have HAA := hq9 haa
     have har := HAR.out
     rw [hp6] at har
     rw [if_pos (by rfl), decide_eq_true (by rfl)] at har
     have HA1 := hq9 har
     have HSC := hq9 hscr
     have HLK := hq9 (overOf_links (srt := srtL) (fun l k h => srtL_mem h) hov)
     have HKB := hq9 (show ∀ x ∈ keptOf e F, Bd x ∧ x.line < N from fun x hx => by
      rw [← hk6] at hx
      exact HOK.out.bd x (HOK.out.kb x hx))
     have HFW := hq9 (overOf_few (srt := srtL) srtL_len (fun x hx => (HKB.out x hx).1) hov)
     have HKL := hq9 (show (keptOf e F).length ≤ 1000 by rw [← hk6]; have h1 := HOK.out.lenK; have h2 := HOK.out.lenF; have h3 := slabs_lines HN.out; omega)
     have HSH := hq9 (arena_Shelf gd cb cap D1 BB _ wr haa HM.out.dev (fun k hk => by
      obtain ⟨x, hx, rfl⟩ := HLK.out k hk
      have hb := HKB.out x hx
      exact ⟨⟨by show (-9223372036854775808 : Int) ≤ x.b.cls; have := hb.1.c0; omega, by show x.b.cls ≤ (9223372036854775807 : Int); have := hb.1.c3; omega⟩, by show x.line ≤ 100000; have := HN2.out; omega⟩) (by show A.tab.length ≤ 1000; have := HFW.out.1; have := HKL.out; omega) (by show A.line.length ≤ 1000; have := HFW.out.2; have := HKL.out; omega))
     have HPL := hq9 (show ∀ B', (shelfOf B' A.tab A.line).pairs.length ≤ 1000 ∧ (shelfOf B' A.tab A.line).queue.length ≤ 1000 from fun B' => ⟨Nat.le_trans (List.length_filterMap_le _ _) (by have := HFW.out.1; have := HKL.out; omega), Nat.le_trans (List.length_filterMap_le _ _) (by have := HFW.out.2; have := HKL.out; omega)⟩)
     have HPH6 := hq9 (show Calls Tryz.prog 71 #[.pointer (some ⟨g, 0, none⟩)] wr fun r w' => r = .returned (.int .i64 ((6 : Nat) : Int)) ∧ wr = w' from by rw [← hp6]; exact HPH.out)
     clear hp6 hee hk6 hscr hov hov' haa hfr har
     unfold pt at HA1
     by_cases hlt : i < 700
     ·have q1 : decide ((i : Int) < 700) = true := by go_num
      have q2 : decide (((6 : Nat) : Int) < 6) = false := by decide
      go_wp2_with fail
      refine HPH6.out.mono ?_
      rintro r w' ⟨rfl, rfl⟩
      go_wp2_with fail
      refine HA1.out.mono ?_
      rintro r w' ⟨rfl, rfl⟩
      go_wp2_with fail
      refine HSH.out.mono ?_
      rintro r w5 ⟨pv, qv, rfl, hp, hq, ho5, hop, hoq⟩
      have B5 := hq9 (B9.out.only ho5 (by simp))
      have P5 := hq9 hp
      have Q5 := hq9 hq
      have O5 := hq9 ho5
      have OP := hq9 hop
      have OQ := hq9 hoq
      obtain ⟨Ap, cp, hpv, _, _⟩ := hp.slice
      obtain ⟨Aq, cq, hqv, _, _⟩ := hq.slice
      obtain ⟨np, hnp⟩ : ∃ np, pv = .slice Ap np cp := ⟨_, hpv⟩
      obtain ⟨nq, hnq⟩ : ∃ nq, qv = .slice Aq nq cq := ⟨_, hqv⟩
      clear hp hq ho5 hop hoq hpv hqv
      subst hnp hnq
      go_wp2_with ((with_reducible show wpList _ _ _ (Oper.mk none _ _ _ _ _ :: _) _ _); refine wpList_store_part rfl 60 (.tmp 3) (.tmp 45) rfl w.heap.size 0 [.slice Ap np cp, .slice Aq nq cq] rfl rfl 60 _ B5.out #[.slice Ap np cp, .slice Aq nq cq] rfl (by simp) shelfInfo (one_of rfl) ?_; intro wz hb ho hs; have BZ := hq9 hb; have OZ := hq9 ho; clear hb ho hs)
      have hwl : w.heap.size < wr.heap.size := B9.out.lt
      refine bodyPost_ret (results_tct rfl _ _ w.heap.size _ _ _ rfl rfl rfl (load_shelf BZ.out)) rfl ⟨RevAns.yes (D' := D1) HR.out ((HM.out.dev.only0 O5.out).only OZ.out (by simpa using HGD.out.1) (by simpa using HGD.out.2)) HM.out.len (HM.out.calm (by rw [HP6.out]; decide)) (by rw [HM.out.bs]; exact HSC.out) (P5.out.only OZ.out (fun b hb h => by have := OP.out b hb; simp at h; omega)) (Q5.out.only OZ.out (fun b hb h => by have := OQ.out b hb; simp at h; omega)) (fun b hb => by have := OP.out b hb; omega) (fun b hb => by have := OQ.out b hb; omega) (HPL.out _).1 (HPL.out _).2, (O9.out.trans0 O5.out).trans OZ.out (fun b hb => .inr (by simp at hb; omega))⟩
     ·have q1 : decide ((i : Int) < 700) = false := by go_num
      go_wp2_with fail
      refine HA1.out.mono ?_
      rintro r w' ⟨rfl, rfl⟩
      go_wp2_with fail
      refine HSH.out.mono ?_
      rintro r w5 ⟨pv, qv, rfl, hp, hq, ho5, hop, hoq⟩
      have B5 := hq9 (B9.out.only ho5 (by simp))
      have P5 := hq9 hp
      have Q5 := hq9 hq
      have O5 := hq9 ho5
      have OP := hq9 hop
      have OQ := hq9 hoq
      obtain ⟨Ap, cp, hpv, _, _⟩ := hp.slice
      obtain ⟨Aq, cq, hqv, _, _⟩ := hq.slice
      obtain ⟨np, hnp⟩ : ∃ np, pv = .slice Ap np cp := ⟨_, hpv⟩
      obtain ⟨nq, hnq⟩ : ∃ nq, qv = .slice Aq nq cq := ⟨_, hqv⟩
      clear hp hq ho5 hop hoq hpv hqv
      subst hnp hnq
      go_wp2_with ((with_reducible show wpList _ _ _ (Oper.mk none _ _ _ _ _ :: _) _ _); refine wpList_store_part rfl 60 (.tmp 3) (.tmp 45) rfl w.heap.size 0 [.slice Ap np cp, .slice Aq nq cq] rfl rfl 60 _ B5.out #[.slice Ap np cp, .slice Aq nq cq] rfl (by simp) shelfInfo (one_of rfl) ?_; intro wz hb ho hs; have BZ := hq9 hb; have OZ := hq9 ho; clear hb ho hs)
      have hwl : w.heap.size < wr.heap.size := B9.out.lt
      refine bodyPost_ret (results_tct rfl _ _ w.heap.size _ _ _ rfl rfl rfl (load_shelf BZ.out)) rfl ⟨RevAns.yes (D' := D1) HR.out ((HM.out.dev.only0 O5.out).only OZ.out (by simpa using HGD.out.1) (by simpa using HGD.out.2)) HM.out.len (HM.out.calm (by rw [HP6.out]; decide)) (by rw [HM.out.bs]; exact HSC.out) (P5.out.only OZ.out (fun b hb h => by have := OP.out b hb; simp at h; omega)) (Q5.out.only OZ.out (fun b hb h => by have := OQ.out b hb; simp at h; omega)) (fun b hb => by have := OP.out b hb; omega) (fun b hb => by have := OQ.out b hb; omega) (HPL.out _).1 (HPL.out _).2, (O9.out.trans0 O5.out).trans OZ.out (fun b hb => .inr (by simp at hb; omega))⟩
end Go.Proofs.YtlggichakafkiaaGreat
namespace Go.Proofs.YtlggichakafkiaaGreat
open Go.BigFrame Go.RowKit Go.Proofs.FuMem Go.Proofs.FuTop Go.Proofs.FuNvm Go.Proofs.FuBlock Go.Proofs.FuClass Go.Proofs.FuGeom
set_option maxRecDepth 100000
def revOut (N : Nat) (B : Nat → List UInt8) : Bool × FuTop.Shelf := match revives srtL N B with
 | none => (false, ⟨[], []⟩)
 | some (_, _, A) => (true, shelfOf B A.tab A.line)
theorem bytes_64 {w : World} {g cb cap : Nat} {D : Dev} (hd : DevAt w g cb cap D) (i : Nat) : (bytesAt D i).length = 64 ∨ bytesAt D i = [] := by
 unfold bytesAt
 split
 ·rename_i h
  exact .inl ((hd.ok _ (List.mem_of_getElem? (lineOf_get h))).1)
 ·exact .inr rfl
theorem revOut_again {N e : Nat} {B B' : Nat → List UInt8} {F : List FuTop.Found} {A : Ar} (h : revives srtL N B = some (e, F, A)) (hB : ∀ i, (B i).length = 64 ∨ B i = []) (hs : Scr F (fun x => keeps e F x = false) B B') :
  revOut N B' = (true, shelfOf B' A.tab A.line) ∧ revOut N B = (true, shelfOf B' A.tab A.line) := by
 obtain ⟨h1, h2⟩ := revives_again (fun l k h => srtL_mem h) h hB hs.1 hs.2
 unfold revOut
 rw [h1, h]
 exact ⟨rfl, by rw [h2]⟩
theorem top_rev (gd cb cap N : Nat) (D : Dev) (w : World) (hd : DevAt w gd cb cap D) (hl : D.lines.length = N) (h1 : 10 ≤ N) (h2 : N ≤ 200) (hc : Calm D) :
  Calls Tryz.prog 35 #[.pointer (some ⟨gd, 0, none⟩)] w fun r w' => ∃ (D' : Dev) (pv qv : Value), r = .returned (.tuple #[.bool (revOut N (bytesAt D)).1, .agg #[pv, qv], .bool true]) ∧ DevAt w' gd cb cap D' ∧ D'.lines.length = N ∧ Calm D' ∧ revOut N (bytesAt D') = revOut N (bytesAt D) ∧ RowS 118 2 w' pv ((revOut N (bytesAt D)).2.pairs.map pairC) ∧ RowS 9 1 w' qv ((revOut N (bytesAt D)).2.queue.map textC) ∧ (∀ b, pv.ownBlock = some b → w.heap.size ≤ b) ∧ (∀ b, qv.ownBlock = some b → w.heap.size ≤ b) ∧ (revOut N (bytesAt D)).2.pairs.length ≤ 1000 ∧ (revOut N (bytesAt D)).2.queue.length ≤ 1000 ∧ Only [gd, cb] w w' := by
 refine (top_revived gd cb cap N D w hd hl h1 h2 hc).mono ?_
 rintro r w' ⟨ha, ho⟩
 unfold RevAns at ha
 cases hr : revives srtL N (bytesAt D) with
 | none =>
   rw [hr] at ha
   obtain ⟨rfl, D', hd', hl', hc', hb'⟩ := ha
   have e : revOut N (bytesAt D) = (false, ⟨[], []⟩) := by unfold revOut; rw [hr]
   rw [e]
   exact ⟨D', .slice none 0 0, .slice none 0 0, rfl, hd', hl', hc', by rw [hb', e], RowS.nil _ _ _, RowS.nil _ _ _, (fun b h => by cases h), (fun b h => by cases h), Nat.zero_le _, Nat.zero_le _, ho⟩
 | some p =>
   obtain ⟨e, F, A⟩ := p
   rw [hr] at ha
   obtain ⟨D', pv, qv, rfl, hd', hl', hc', hs, hp, hq, op, oq, np, nq⟩ := ha
   obtain ⟨e1, e2⟩ := revOut_again hr (bytes_64 hd) hs
   rw [e2]
   exact ⟨D', pv, qv, rfl, hd', hl', hc', e1, hp, hq, op, oq, np, nq, ho⟩
end Go.Proofs.YtlggichakafkiaaGreat
namespace Go.Proofs.YtlggichakafkiaaGreat
open Go.BigFrame Go.RowKit Go.ChangeShapes Go.WideShapes Go.Proofs.FuMem Go.Proofs.FuNvm Go.Proofs.FuGeom
set_option maxRecDepth 100000
abbrev Row8 := Option Addr × Nat × Nat × List UInt8
def Rows8 (w : World) (A : Option Addr) (n : Nat) (L : List Row8) : Prop :=
 Sl w A n (L.map fun x => Value.slice x.1 x.2.1 x.2.2.1) ∧ ∀ x ∈ L, Bs w x.1 x.2.1 x.2.2.2 ∧ x.2.1 ≤ maxLen
theorem Rows8.only0 {w w' : World} {A : Option Addr} {n : Nat} {L : List Row8} (h : Rows8 w A n L) (o : Only [] w w') : Rows8 w' A n L :=
 ⟨h.1.only0 o, fun x hx => ⟨(h.2 x hx).1.only0 o, (h.2 x hx).2⟩⟩
theorem Rows8.len {w : World} {A : Option Addr} {n : Nat} {L : List Row8} (h : Rows8 w A n L) : L.length = n := by simpa using h.1.1
theorem Rows8.get {w : World} {A : Option Addr} {n : Nat} {L : List Row8} (h : Rows8 w A n L) {j : Nat} (hj : j < n) :
  ∃ b off a m c l, A = some ⟨b, off, none⟩ ∧ w.cell? ⟨b, off + j, none⟩ = some (.slice a m c) ∧ Bs w a m l ∧ m ≤ maxLen := by
 obtain ⟨b, off, rfl, hc⟩ := h.1.at_ (by omega)
 have hl := h.len
 have := hc j (by simpa [hl] using hj)
 rw [List.getElem_map] at this
 obtain ⟨h1, h2⟩ := h.2 _ (List.getElem_mem (show j < L.length by omega))
 exact ⟨b, off, _, _, _, _, rfl, this, h1, h2⟩
theorem open_rows8 {H : Type} {enc : TypeId × Value → H} {w : World} {held : Bool} {A : Option Addr} {n c : Nat} {d : DataW H} {p : List MemPlace}
  (h : DataW.Trod enc Tryz.prog w 0 (fun _ => true) held 80 (.slice A n c) d p) : ∃ L, Rows8 w A n L ∧ n ≤ c := by
 obtain ⟨fuel, hf⟩ := h
 rcases Deep.open_int_rows Tryz.underlying80 Tryz.underlying71 Tryz.underlying5 (by kernel_rfl) (by kernel_rfl) hf with ⟨hcs, _⟩ | ⟨a, len, cap, R, L, C, Z, hcs, hb, hl, hm, _, hall⟩
 ·simp [Value.cells] at hcs
  obtain ⟨rfl, rfl, rfl⟩ := hcs
  exact ⟨[], ⟨Sl.nil _ _, by simp⟩, Nat.le_refl _⟩
 ·simp [Value.cells] at hcs
  obtain ⟨rfl, rfl, rfl⟩ := hcs
  have each : ∀ r, r < n → ∃ l, Bs w (R r) (L r) l ∧ L r ≤ maxLen := fun r hr => by
   obtain ⟨h1, h2, h3, h4, h5, h6, h7⟩ := hall r (by omega)
   have hrow : IsRow .u8 w (R r) (L r) (C r) (Z r) := by
    cases hR : R r with
    | none =>
      have h0 := h6 hR
      exact .inl ⟨rfl, by omega, h0, List.eq_nil_of_length_eq_zero (by omega)⟩
    | some a' =>
      exact .inr ⟨a', rfl, h2, h3, h4, fun i hi => (h7 a' hR).2 i (by omega), h5⟩
   exact hrow.bytes
  obtain ⟨l, hl2⟩ : ∃ l : Nat → List UInt8, ∀ r, r < n → Bs w (R r) (L r) (l r) ∧ L r ≤ maxLen := by
   refine ⟨fun r => if h : r < n then Classical.choose (each r h) else [], fun r hr => ?_⟩
   simp only [hr, dif_pos]
   exact Classical.choose_spec (each r hr)
  refine ⟨(List.range n).map fun r => (R r, L r, C r, l r), ⟨⟨by simp, ?_⟩, fun x hx => ?_⟩, hl⟩
  ·by_cases h0 : n = 0
   ·exact .inl h0
   ·obtain ⟨b, off, spot⟩ := a
    have hc := (hall 0 (by omega)).1
    have hspot : spot = none := by simpa [Addr.add] using World.cell?_spot hc
    subst hspot
    refine .inr ⟨b, off, rfl, fun k hk => ?_⟩
    have := (hall k (by omega)).1
    rw [Addr.add_lit] at this
    rw [this]
    simp [hk]
  ·obtain ⟨r, hr, rfl⟩ := List.mem_map.1 hx
   exact hl2 r (List.mem_range.1 hr)
def HeldBut (D : Dev) (S : Nat → Prop) : Prop := ∀ i x, D.lines[i]? = some x → S i ∨ (x.sent = false ∧ x.kept = x.now) ∨ (x.sent = true ∧ x.way = x.now)
theorem HeldBut.store {D : Dev} {S : Nat → Prop} (h : HeldBut D S) (k : Nat) (pos : Int) (l : List UInt8) : HeldBut (store1 D k pos l) (fun i => S i ∨ i = k) ∧ (store1 D k pos l).lines.length = D.lines.length := by
 unfold store1
 split
 ·exact ⟨fun i x hx => (h i x hx).imp .inl id, rfl⟩
 ·refine ⟨fun i x hx => ?_, by simp [storeD]⟩
  simp only [storeD, Int.toNat_natCast] at hx
  by_cases e : i = k
  ·exact .inl (.inr e)
  ·rw [List.getElem?_set_ne (by omega)] at hx
   exact (h i x hx).imp .inl id
theorem HeldBut.flush {D : Dev} {S : Nat → Prop} (h : HeldBut D S) (k : Nat) : HeldBut (flush1 D k) (fun i => S i ∧ i ≠ k) ∧ (flush1 D k).lines.length = D.lines.length := by
 unfold flush1
 split
 ·rename_i hn
  refine ⟨fun i x hx => ?_, rfl⟩
  by_cases e : i = k
  ·have hl := (List.getElem?_eq_some_iff.1 hx).1
   unfold noPlace at hn
   omega
  ·exact (h i x hx).imp (fun s => ⟨s, e⟩) id
 ·refine ⟨fun i x hx => ?_, by simp [flushD]⟩
  simp only [flushD, Int.toNat_natCast] at hx
  by_cases e : i = k
  ·subst e
   have hl := (List.getElem?_eq_some_iff.1 hx).1
   rw [List.length_set] at hl
   rw [List.getElem?_set_self hl] at hx
   injection hx with hx
   subst hx
   exact .inr (.inr ⟨rfl, rfl⟩)
  ·rw [List.getElem?_set_ne (by omega)] at hx
   exact (h i x hx).imp (fun s => ⟨s, e⟩) id
theorem calm_format (N : Nat) : Calm (formatD (newDev N)) ∧ (formatD (newDev N)).lines.length = N := by
 have hl : (newDev N).lines.length = N := by simp [newDev]
 unfold formatD
 split
 ·exact ⟨calm_new N, hl⟩
 ·have h0 : HeldBut (newDev N) (fun _ => False) := fun i x hx => .inr (.inl (calm_new N x (List.mem_of_getElem? hx)))
  obtain ⟨h1, l1⟩ := h0.store 0 0 (superL (newDev N).lines.length)
  obtain ⟨h2, l2⟩ := h1.store 1 0 (clockL 0)
  obtain ⟨h3, l3⟩ := h2.flush 0
  obtain ⟨h4, l4⟩ := h3.flush 1
  have hh : Held (flush1 (flush1 (store1 (store1 (newDev N) 0 0 (superL (newDev N).lines.length)) 1 0 (clockL 0)) 0) 1) := fun x hx => by
   obtain ⟨i, hi⟩ := List.mem_iff_getElem?.1 hx
   rcases h4 i x hi with s | s
   ·exfalso
    rcases s with ⟨⟨(s | s) | s, t⟩, u⟩
    ·exact s
    ·exact t s
    ·exact u s
   ·exact s
  refine ⟨hh.fence.1, hh.fence.2.2.trans ?_⟩
  exact l4.trans (l3.trans (l2.trans (l1.trans hl)))
end Go.Proofs.YtlggichakafkiaaGreat
namespace Go.Proofs.YtlggichakafkiaaGreat
open Go.BigFrame Go.RowKit Go.Proofs.FuMem
set_option maxRecDepth 100000
theorem Blk.fill7 {w : World} {g : Nat} {t : TypeId} {u0 u1 u2 u3 u4 u5 u6 : Value} (hb : Blk w g t #[u0, u1, u2, u3, u4, u5, u6]) (v0 v1 v2 v3 v4 v5 v6 : Value) : Blk (((((((w.setCell ⟨g, 0, none⟩ v0).setCell ⟨g, 1, none⟩ v1).setCell ⟨g, 2, none⟩ v2).setCell ⟨g, 3, none⟩ v3).setCell ⟨g, 4, none⟩ v4).setCell ⟨g, 5, none⟩ v5).setCell ⟨g, 6, none⟩ v6) g t #[v0, v1, v2, v3, v4, v5, v6] ∧ Only [g] w (((((((w.setCell ⟨g, 0, none⟩ v0).setCell ⟨g, 1, none⟩ v1).setCell ⟨g, 2, none⟩ v2).setCell ⟨g, 3, none⟩ v3).setCell ⟨g, 4, none⟩ v4).setCell ⟨g, 5, none⟩ v5).setCell ⟨g, 6, none⟩ v6) := by
 have h0 : Blk (w.setCell ⟨g, 0, none⟩ v0) g t #[v0, u1, u2, u3, u4, u5, u6] := by simpa using hb.set 0 v0
 have h1 : Blk ((w.setCell ⟨g, 0, none⟩ v0).setCell ⟨g, 1, none⟩ v1) g t #[v0, v1, u2, u3, u4, u5, u6] := by simpa using h0.set 1 v1
 have h2 : Blk (((w.setCell ⟨g, 0, none⟩ v0).setCell ⟨g, 1, none⟩ v1).setCell ⟨g, 2, none⟩ v2) g t #[v0, v1, v2, u3, u4, u5, u6] := by simpa using h1.set 2 v2
 have h3 : Blk ((((w.setCell ⟨g, 0, none⟩ v0).setCell ⟨g, 1, none⟩ v1).setCell ⟨g, 2, none⟩ v2).setCell ⟨g, 3, none⟩ v3) g t #[v0, v1, v2, v3, u4, u5, u6] := by simpa using h2.set 3 v3
 have h4 : Blk (((((w.setCell ⟨g, 0, none⟩ v0).setCell ⟨g, 1, none⟩ v1).setCell ⟨g, 2, none⟩ v2).setCell ⟨g, 3, none⟩ v3).setCell ⟨g, 4, none⟩ v4) g t #[v0, v1, v2, v3, v4, u5, u6] := by simpa using h3.set 4 v4
 have h5 : Blk ((((((w.setCell ⟨g, 0, none⟩ v0).setCell ⟨g, 1, none⟩ v1).setCell ⟨g, 2, none⟩ v2).setCell ⟨g, 3, none⟩ v3).setCell ⟨g, 4, none⟩ v4).setCell ⟨g, 5, none⟩ v5) g t #[v0, v1, v2, v3, v4, v5, u6] := by simpa using h4.set 5 v5
 have h6 : Blk (((((((w.setCell ⟨g, 0, none⟩ v0).setCell ⟨g, 1, none⟩ v1).setCell ⟨g, 2, none⟩ v2).setCell ⟨g, 3, none⟩ v3).setCell ⟨g, 4, none⟩ v4).setCell ⟨g, 5, none⟩ v5).setCell ⟨g, 6, none⟩ v6) g t #[v0, v1, v2, v3, v4, v5, v6] := by simpa using h5.set 6 v6
 refine ⟨h6, ?_⟩
 have h : ∀ {w' : World} (i : Nat) (v : Value), Only [g] w w' → Only [g] w (w'.setCell ⟨g, i, none⟩ v) := fun i v ho => ho.setCell (p := ⟨g, i, none⟩) (.inl (by simp)) v
 exact h _ _ (h _ _ (h _ _ (h _ _ (h _ _ (h _ _ (h _ _ (Only.refl _ _)))))))
def ptPhases : Array Value := #[.func (.func 256) #[] #[], .func (.func 257) #[] #[], .func (.func 258) #[] #[], .func (.func 259) #[] #[], .func (.func 260) #[] #[], .func (.func 261) #[] #[], .func (.func 262) #[] #[]]
theorem pt_phases (w : World) :
  Calls Tryz.prog 211 #[] w fun r w' => r = .returned (.agg ptPhases) ∧ Only [] w w' := by
 have hsf : ∀ (fn : Fn) (a : Addr) (W : World), Sem.run Tryz.prog (store a (.func fn #[] #[])) W = Go.stored Tryz.prog W a (.func fn #[] #[]) .plain := fun fn a W => run_store _ W a _ _ rfl
 go_enter Tryz.func211, Tryz.ntmps211
 go_wp2_with fail
 refine bodyPost_ret (results_cell_row rfl _ _ w.heap.size 356 _ _ _ rfl (Blk.new w 356 _) Tryz.underlying356 rfl (by kernel_rfl)) rfl ⟨rfl, (Only.refl [] w).alloc _⟩
theorem store_pt (b : Nat) (W : World) (hb : Blk W b 356 #[.nilFunc, .nilFunc, .nilFunc, .nilFunc, .nilFunc, .nilFunc, .nilFunc]) :
  ∃ w', (Instr.storeAt 356 (.pointer (some ⟨b, 0, none⟩)) (.agg ptPhases)).run Tryz.prog W = .ok () w' ∧ Blk w' b 356 ptPhases ∧ Only [b] W w' := by
 have FILL := Blk.fill7 hb (.func (.func 256) #[] #[]) (.func (.func 257) #[] #[]) (.func (.func 258) #[] #[]) (.func (.func 259) #[] #[]) (.func (.func 260) #[] #[]) (.func (.func 261) #[] #[]) (.func (.func 262) #[] #[])
 have hsf : ∀ (fn : Fn) (a : Addr) (W : World), Sem.run Tryz.prog (store a (.func fn #[] #[])) W = Go.stored Tryz.prog W a (.func fn #[] #[]) .plain := fun fn a W => run_store _ W a _ _ rfl
 have c0 := hb.cell 0
 have f0 := hb.frozen 0
 have c1 := hb.cell 1
 have f1 := hb.frozen 1
 have c2 := hb.cell 2
 have f2 := hb.frozen 2
 have c3 := hb.cell 3
 have f3 := hb.frozen 3
 have c4 := hb.cell 4
 have f4 := hb.frozen 4
 have c5 := hb.cell 5
 have f5 := hb.frozen 5
 have c6 := hb.cell 6
 have f6 := hb.frozen 6
 refine ⟨_, ?_, FILL.1, FILL.2⟩
 clear FILL hb
 unfold ptPhases
 go_simp
def wkC (a : Nat) (f : Fr) : List Value := .pointer (some ⟨a, 0, none⟩) :: .int .i64 0 :: frC f
set_option maxHeartbeats 4000000 in
theorem pt_Step (a : Nat) (f : Fr) (w : World) (ph : Nat) (hph : ph < 7) (hfp : f.ph = ph) (hk : 1 ≤ f.k ∧ f.k ≤ 3) (fid : FuncId) (hfn : ptPhases[ph]? = some (.func (.func fid) #[] #[])) (hent : ∀ g w, (callFunc fid #[.pointer (some ⟨g, 0, none⟩)]).run Tryz.prog w = .ok (.enter fid #[.pointer (some ⟨g, 0, none⟩)]) w)
  (T : List Nat) (hT : ∀ b ∈ T, b < w.heap.size) (R : Fr → World → World → Prop)
  (HF : ∀ w1 wb, Only [] w w1 → Blk w1 wb 354 (wkC a f).toArray → w.heap.size ≤ wb → Calls Tryz.prog fid #[.pointer (some ⟨wb, 0, none⟩)] w1 fun r w' => r = .returned (.tuple #[]) ∧ ∃ f', Blk w' wb 354 (wkC a f').toArray ∧ Only (wb :: T) w1 w' ∧ R f' w1 w') :
  Calls Tryz.prog 180 #[.pointer (some ⟨a, 0, none⟩), .int .i64 0, .agg (frC f).toArray] w fun r w' => ∃ f' w1 w2 rb, r = .returned (.agg (frC f').toArray) ∧ R f' w1 w2 ∧ Only [] w w1 ∧ Only T w w' ∧ Only [rb] w2 w' ∧ w.heap.size ≤ rb ∧ rb < w1.heap.size := by
 have HFP := hq9 hfp
 have HFF := hq9 HF
 have HTT := hq9 hT
 have HFN := hq9 hfn
 obtain ⟨b1, b2, o2⟩ := two_new w 74 74 (frC f).toArray #[.int .i64 0, .string ⟨#[]⟩, .string ⟨#[]⟩, .string ⟨#[]⟩, .slice none 0 0, .int .i64 0, .int .u64 0, .string ⟨#[]⟩, .bool false, .int .i64 0, .bool false, .string ⟨#[]⟩, .int .u64 0, .int .u64 0, .int .i64 0, .int .i64 0, .int .i64 0, .int .i64 0, .int .i64 0, .slice none 0 0, .int .i64 0, .slice none 0 0, .int .i64 0, .bool false, .string ⟨#[]⟩, .slice none 0 0, .slice none 0 0, .int .u64 0]
 have B1 := hq9 b1
 have B2 := hq9 b2
 have O2 := hq9 o2
 have HCL := hq9 (frames_Clone f)
 have F1 := hq9 (frC_one f)
 clear HF hT hfn b1 b2 o2 hfp
 go_enter Tryz.func180, Tryz.ntmps180
 go_wp2_with ((with_reducible show wpList _ _ _ (Oper.mk (some 11) _ _ _ _ _ :: _) _ _); refine wpList_load_part rfl 74 (.tmp 5) rfl w.heap.size 0 rfl 74 _ B1.out (frC f) rfl _ Tryz.underlying74 rfl (by kernel_rfl) ?_)
 generalize ((w.alloc _).alloc _) = w1 at *
 refine (HCL.out w1).mono ?_
 rintro r w2 ⟨rfl, o⟩
 have B3 := hq9 (B1.out.only o (by simp))
 have B4 := hq9 (B2.out.only o (by simp))
 have O3 := hq9 (O2.out.trans0 o)
 have G3 := hq9 (show w.heap.size + 1 < w2.heap.size from B4.out.lt)
 clear o B1 B2 O2
 unfold frC
 go_wp2_with fail
 have BW := hq9 (Blk.new w2 354 #[.pointer (some ⟨a, 0, none⟩), .int .i64 0, .int .i64 f.k, .string f.key, .string f.val, .string f.to, .slice none 0 0, .int .i64 f.ph, .int .u64 f.ep, .string f.pos, .bool f.past, .int .i64 f.lev, .bool f.had, .string f.okey, .int .u64 f.oid, .int .u64 f.over, .int .i64 f.oline, .int .i64 f.ocls, .int .i64 f.line, .int .i64 f.cls, .int .i64 f.piece, .slice none 0 0, .int .i64 f.at_, .slice none 0 0, .int .i64 f.code, .bool f.found, .string f.aval, .slice none 0 0, .slice none 0 0, .int .u64 f.aep])
 have ow := (Only.refl [] w2).alloc (.cells #[.pointer (some ⟨a, 0, none⟩), .int .i64 0, .int .i64 f.k, .string f.key, .string f.val, .string f.to, .slice none 0 0, .int .i64 f.ph, .int .u64 f.ep, .string f.pos, .bool f.past, .int .i64 f.lev, .bool f.had, .string f.okey, .int .u64 f.oid, .int .u64 f.over, .int .i64 f.oline, .int .i64 f.ocls, .int .i64 f.line, .int .i64 f.cls, .int .i64 f.piece, .slice none 0 0, .int .i64 f.at_, .slice none 0 0, .int .i64 f.code, .bool f.found, .string f.aval, .slice none 0 0, .slice none 0 0, .int .u64 f.aep] 354)
 have B5 := hq9 (B3.out.only ow (by simp))
 have B6 := hq9 (B4.out.only ow (by simp))
 have O5 := hq9 (O3.out.trans0 ow)
 clear ow B3 B4 O3
 generalize (w2.alloc (.cells #[.pointer (some ⟨a, 0, none⟩), .int .i64 0, .int .i64 f.k, .string f.key, .string f.val, .string f.to, .slice none 0 0, .int .i64 f.ph, .int .u64 f.ep, .string f.pos, .bool f.past, .int .i64 f.lev, .bool f.had, .string f.okey, .int .u64 f.oid, .int .u64 f.over, .int .i64 f.oline, .int .i64 f.ocls, .int .i64 f.line, .int .i64 f.cls, .int .i64 f.piece, .slice none 0 0, .int .i64 f.at_, .slice none 0 0, .int .i64 f.code, .bool f.found, .string f.aval, .slice none 0 0, .slice none 0 0, .int .u64 f.aep] 354)) = w3 at *
 refine (pt_phases w3).mono ?_
 rintro r w4 ⟨rfl, o⟩
 have BW4 := BW.out.only o (by simp)
 have B7 := B5.out.only o (by simp)
 have B8 := B6.out.only o (by simp)
 have O7 := O5.out.trans0 o
 have oa := (Only.refl [] w4).alloc (.cells #[.nilFunc, .nilFunc, .nilFunc, .nilFunc, .nilFunc, .nilFunc, .nilFunc] 356)
 obtain ⟨w5, hr5, bp, o5⟩ := store_pt w4.heap.size _ (Blk.new w4 356 #[.nilFunc, .nilFunc, .nilFunc, .nilFunc, .nilFunc, .nilFunc, .nilFunc])
 have hlt7 := B7.lt
 have hlt8 := B8.lt
 have hltw := BW4.lt
 have ho5 : ∀ b, b < w4.heap.size → b ∉ [w4.heap.size] := fun b hb h => by simp at h; omega
 have BW5 := hq9 ((BW4.only oa (by simp)).only o5 (ho5 _ hltw))
 have BF5 := hq9 ((B7.only oa (by simp)).only o5 (ho5 _ hlt7))
 have BR5 := hq9 ((B8.only oa (by simp)).only o5 (ho5 _ hlt8))
 have O8 := hq9 ((O7.trans0 oa).trans o5 (fun b hb => .inr (by simp at hb; rw [hb]; exact O7.size)))
 have cf : w5.cell? ⟨w4.heap.size, ph, none⟩ = some (.func (.func fid) #[] #[]) := (bp.cell ph).trans HFN.out
 have c0 : w5.cell? ⟨w.heap.size, 0, none⟩ = some (.int .i64 f.k) := BF5.out.cell 0
 have c5 : w5.cell? ⟨w.heap.size, 5, none⟩ = some (.int .i64 ph) := by rw [← HFP.out]; exact BF5.out.cell 5
 have q1 : decide (f.k < 1) = false := by simp; omega
 have q2 : decide (f.k > 3) = false := by simp; omega
 have q3 : decide ((ph : Int) ≥ 7) = false := by go_num
 have q4 : decide ((ph : Int) < 0) = false := by go_num
 have q5 : (0 : Int) ≤ (ph : Int) := by omega
 have q6 : (ph : Int) < 7 := by omega
 have HR5 := hq9 hr5
 have RLT := hq9 (show w.heap.size + 1 < w5.heap.size from BR5.out.lt)
 have WBN := hq9 (show w2.heap.size ≠ w.heap.size + 1 ∧ w.heap.size ≤ w2.heap.size from by have := G3.out; omega)
 clear o oa o5 bp hr5 BW4 B7 B8 O7 hlt7 hlt8 hltw ho5 BW B5 B6 O5
 go_wp2_with ((with_reducible show wpList _ _ _ (Oper.mk none _ _ _ _ _ :: _) _ _); refine wpList_store_run rfl 356 (.tmp 8) (.tmp 15) rfl _ _ rfl rfl _ HR5.out ?_)
 clear HR5 cf c0 c5 q1 q2 q3 q4
 generalize w2.heap.size = wb at *
 refine (HFF.out w5 wb O8.out BW5.out WBN.out.2).mono ?_
 rintro r w6 ⟨rfl, f', b6, o6, hR⟩
 have BW6 := hq9 b6
 have BR6 := hq9 (BR5.out.only o6 (fun h => by
  rcases List.mem_cons.1 h with h | h
  ·exact WBN.out.1 h.symm
  ·have := HTT.out _ h
   omega))
 have O6 := hq9 (show Only T w w6 from (O8.out.mono (T := T) (by simp)).trans o6 (fun b hb => by
  rcases List.mem_cons.1 hb with h | h
  ·exact .inr (by rw [h]; exact WBN.out.2)
  ·exact .inl h))
 have HR := hq9 hR
 have F2 := hq9 (frC_one f')
 clear b6 o6 hR
 go_wp2_with (first | ((with_reducible show wpList _ _ _ (Oper.mk (some 53) _ _ _ _ _ :: _) _ _); refine wpList_load_part rfl 74 (.tmp 52) rfl wb 2 rfl 354 _ BW6.out (frC f') rfl _ Tryz.underlying74 rfl (by kernel_rfl) ?_) | ((with_reducible show wpList _ _ _ (Oper.mk none _ _ _ _ _ :: _) _ _); refine wpList_store_part rfl 74 (.tmp 6) (.tmp 53) rfl (w.heap.size + 1) 0 (frC f') rfl rfl 74 _ BR6.out (frC f').toArray rfl (by simp [frC]) frInfo F2.out ?_; intro w7 hb ho hs; have BZ := hq9 hb; have OZ := hq9 ho; clear hb ho hs))
 refine bodyPost_ret (results_cell_row rfl _ _ (w.heap.size + 1) 74 _ _ _ rfl BZ.out Tryz.underlying74 rfl (by kernel_rfl)) rfl ⟨f', w5, w6, w.heap.size + 1, rfl, HR.out, O8.out, O6.out.trans OZ.out (fun b hb => .inr (by simp at hb; omega)), OZ.out, by omega, RLT.out⟩
end Go.Proofs.YtlggichakafkiaaGreat
namespace Go.Proofs.YtlggichakafkiaaGreat
open Go.BigFrame Go.RowKit Go.Proofs.FuMem Go.Proofs.FuTop Go.Proofs.FuNvm Go.Proofs.FuPool Go.Proofs.FuClk
set_option maxRecDepth 100000
section
variable {w w' : World} {gd : Nat} {B : ArB} {S : ArS}
theorem ArAt.setRdr (h : ArAt w gd B S) {now : Int} {has : List Int} (ho : Only [B.rh] w w') (hp : RdrAt w' B.r B.rh now has) : ArAt w' gd B { S with now := now, has := has } :=
 Whole.upd2 h (arXs_fit _ _ _) 0 (F := [B.r, B.rh]) (F' := [B.r, B.rh]) (Y := rdrC B.r B.rh now has) rfl ho (fun b hb => .inl (by simp at hb; simp [hb])) ⟨rfl, hp⟩ (by simp [hp.ne]) (fun b hb => .inl hb)
theorem ArAt.setClk (h : ArAt w gd B S) {C : Clk} (ho : Only [B.k, B.ko] w w') (hp : ClkAt w' B.k B.ko C) : ArAt w' gd B { S with C := C } :=
 Whole.upd2 h (arXs_fit _ _ _) 1 (F := [B.k, B.ko]) (F' := [B.k, B.ko]) (Y := clkC B.k B.ko C) rfl ho (fun b hb => .inl hb) ⟨rfl, hp⟩ (by simp [hp.ne]) (fun b hb => .inl hb)
theorem ArAt.setPool (h : ArAt w gd B S) {P : Pool} (ho : Only [B.ps] w w') (hp : PoolAt w' B.p B.ps P) : ArAt w' gd B { S with P := P } :=
 Whole.upd2 h (arXs_fit _ _ _) 2 (F := [B.p, B.ps]) (F' := [B.p, B.ps]) (Y := poolC B.p B.ps P) rfl ho (fun b hb => .inl (by simp at hb; simp [hb])) ⟨rfl, hp⟩ (by simp [hp.ne]) (fun b hb => .inl hb)
theorem ArAt.setTab (h : ArAt w gd B S) {T : List Link} (ho : Only (B.t :: B.ts) w w') (hp : TabAt w' B.t B.ts T) : ArAt w' gd B { S with T := T } :=
 Whole.upd2 h (arXs_fit _ _ _) 5 (F := B.t :: B.ts) (F' := B.t :: B.ts) (Y := tabC B.t B.ts T) rfl ho (fun b hb => .inl hb) ⟨rfl, hp⟩ hp.nd (fun b hb => .inl hb)
theorem ArAt.setOrd (h : ArAt w gd B S) {vs : List Value} {Ls : List (List Link)} (ho : Only (B.o :: ownsOf B.ov) w w') (hp : LevAt w' B.o vs Ls) (hn : ∀ c ∈ ownsOf vs, c ∈ ownsOf B.ov ∨ w.heap.size ≤ c) : ArAt w' gd { B with ov := vs } { S with Ls := Ls } :=
 Whole.upd2 h (arXs_fit _ _ _) 6 (F := B.o :: ownsOf B.ov) (F' := B.o :: ownsOf vs) (Y := ordC B.o vs Ls) rfl ho (fun b hb => .inl hb) ⟨rfl, hp⟩ hp.nodup (fun b hb => by
  rcases List.mem_cons.1 hb with rfl | hb
  ·exact .inl (by simp)
  ·rcases hn b hb with h | h
   ·exact .inl (List.mem_cons_of_mem _ h)
   ·exact .inr h)
theorem ArAt.setHead (h : ArAt w gd B S) {i j : Nat} (ho : Only [B.a] w w') (hp : Blk w' B.a 198 (arHead B { S with id := i, ver := j })) : ArAt w' gd B { S with id := i, ver := j } :=
 Whole.upd2 h (arXs_fit _ _ _) 8 (F := [B.a]) (F' := [B.a]) (Y := blkC B.a 198 (arHead B { S with id := i, ver := j })) rfl ho (fun b hb => .inl hb) ⟨rfl, hp⟩ (by simp) (fun b hb => .inl hb)
theorem ArAt.mem (h : ArAt w gd B S) : B.a ∈ (arFs B).flatten ∧ B.rh ∈ (arFs B).flatten ∧ B.ps ∈ (arFs B).flatten ∧ B.k ∈ (arFs B).flatten ∧ B.ko ∈ (arFs B).flatten := by simp [arFs]
end
def turnT (gd cb : Nat) (B : ArB) : List Nat := gd :: cb :: (arFs B).flatten
def awF (ph : Int) (ep : Nat) (line piece : Int) (aep : Nat) : Fr := ⟨2, putK, putV, ⟨#[]⟩, ph, ep, ⟨#[]⟩, false, 0, false, ⟨#[]⟩, 0, 0, 0, 0, line, 0, piece, 0, 0, false, ⟨#[]⟩, aep⟩
structure PtAt (w : World) (wb gd cb cap : Nat) (B : ArB) (S : ArS) (D : Dev) (f : Fr) : Prop where
 wk : Blk w wb 354 (wkC B.a f).toArray
 ar : ArAt w gd B S
 dev : DevAt w gd cb cap D
 ne : wb ∉ turnT gd cb B
 gd0 : gd ∉ (arFs B).flatten
 cb0 : cb ∉ (arFs B).flatten
theorem PtAt.keep {w w' : World} {wb gd cb cap : Nat} {B : ArB} {S : ArS} {D : Dev} {f : Fr} (h : PtAt w wb gd cb cap B S D f) (o : Only [] w w') : PtAt w' wb gd cb cap B S D f := ⟨h.wk.only o (by simp), h.ar.keep0 o, h.dev.only0 o, h.ne, h.gd0, h.cb0⟩
theorem PtAt.set {w : World} {wb gd cb cap : Nat} {B : ArB} {S : ArS} {D : Dev} {f f' : Fr} (h : PtAt w wb gd cb cap B S D f) (i : Nat) (v : Value) (hf : (wkC B.a f).toArray.setIfInBounds i v = (wkC B.a f').toArray) : PtAt (w.setCell ⟨wb, i, none⟩ v) wb gd cb cap B S D f' ∧ Only [wb] w (w.setCell ⟨wb, i, none⟩ v) := by
 have os := (Only.refl [wb] w).setCell (p := ⟨wb, i, none⟩) (.inl (by simp)) v
 have hn := h.ne
 unfold turnT at hn
 simp only [List.mem_cons, not_or] at hn
 refine ⟨⟨by rw [← hf]; exact h.wk.set i v, h.ar.keep os (fun b hb hb2 => by simp at hb2; subst hb2; exact hn.2.2 hb), h.dev.only os (by simpa using fun e => hn.1 e.symm) (by simpa using fun e => hn.2.1 e.symm), h.ne, h.gd0, h.cb0⟩, os⟩
theorem PtAt.ne2 {w : World} {wb gd cb cap : Nat} {B : ArB} {S : ArS} {D : Dev} {f : Fr} (h : PtAt w wb gd cb cap B S D f) {b : Nat} (hb : b ∈ (arFs B).flatten) : wb ≠ b ∧ gd ≠ b ∧ cb ≠ b := by
 have hn := h.ne
 unfold turnT at hn
 simp only [List.mem_cons, not_or] at hn
 exact ⟨fun e => hn.2.2 (e ▸ hb), fun e => h.gd0 (e ▸ hb), fun e => h.cb0 (e ▸ hb)⟩
theorem PtAt.ar2 {w w' : World} {wb gd cb cap : Nat} {B : ArB} {S S' : ArS} {D : Dev} {f : Fr} {T : List Nat} (h : PtAt w wb gd cb cap B S D f) (ho : Only T w w') (hT : ∀ b ∈ T, b ∈ (arFs B).flatten) (ha : ArAt w' gd B S') : PtAt w' wb gd cb cap B S' D f :=
 ⟨h.wk.only ho (fun hb => (h.ne2 (hT _ hb)).1 rfl), ha, h.dev.only ho (fun hb => (h.ne2 (hT _ hb)).2.1 rfl) (fun hb => (h.ne2 (hT _ hb)).2.2 rfl), h.ne, h.gd0, h.cb0⟩
set_option maxHeartbeats 2000000 in
theorem frames_Enter (wb gd cb cap : Nat) (B : ArB) (S : ArS) (D : Dev) (w : World) (h : PtAt w wb gd cb cap B S D (awF 0 0 (-1) 0 0)) (h0 : S.has = [0]) (h1 : S.C.now = 1) :
  Calls Tryz.prog 311 #[.pointer (some ⟨B.a, 0, none⟩), .int .i64 0, .pointer (some ⟨wb, 2, none⟩)] w fun r w' => r = .returned (.bool true) ∧ PtAt w' wb gd cb cap B { S with has := [S.now] } D (awF 0 1 (-1) 0 0) ∧ Only [wb, B.rh] w w' := by
 have H := hq9 h
 have H0 := hq9 h0
 have H1 := hq9 h1
 have HM := hq9 h.ar.mem
 have HGD := hq9 ideal_Good_put
 unfold putC callC putK putV at HGD
 clear h h0 h1
 go_enter Tryz.func311, Tryz.ntmps311
 go_wp2_with ((with_reducible show wpList _ _ _ (Oper.mk (some 11) _ _ _ _ _ :: _) _ _); refine wpList_load_part rfl 40 (.tmp 10) rfl wb 2 rfl 354 _ H.out.wk [.int .i64 2, .string ⟨#[97]⟩, .string ⟨#[49]⟩, .string ⟨#[]⟩, .slice none 0 0] rfl _ Tryz.underlying40 rfl (by kernel_rfl) ?_)
 refine (HGD.out w).mono ?_
 rintro r w1 ⟨rfl, o1⟩
 have P1 := hq9 (H.out.keep o1)
 have O1 := hq9 o1
 clear o1
 go_wp2_with fail
 refine (arena_Readers w1 P1.out.ar).mono ?_
 rintro r w' ⟨rfl, rfl⟩
 go_wp2_with fail
 refine (rdr_Enter B.r B.rh S.now S.has 0 w1 P1.out.ar.rdr (by rw [H0.out]; rfl)).mono ?_
 rintro r w2 ⟨rfl, r2, o2⟩
 have P2 := hq9 (P1.out.ar2 o2 (fun b hb => by simp at hb; rw [hb]; exact HM.out.2.1) (P1.out.ar.setRdr o2 (by rw [H0.out] at r2; exact r2)))
 have O2 := hq9 ((O1.out.mono (T := [wb, B.rh]) (by simp)).trans o2 (fun b hb => .inl (List.mem_cons_of_mem _ hb)))
 clear r2 o2
 go_wp2_with fail
 refine (arena_Clock w2 P2.out.ar).mono ?_
 rintro r w' ⟨rfl, rfl⟩
 go_wp2_with fail
 refine (clk_Now B.k B.ko S.C w2 P2.out.ar.clk).mono ?_
 rintro r w' ⟨rfl, rfl⟩
 rw [H1.out]
 have c8 : w2.cell? ⟨wb, 8, none⟩ = some (.int .u64 0) := P2.out.wk.cell 8
 have f8 := P2.out.wk.frozen 8
 have SE := hq9 (P2.out.set 8 (.int .u64 1) (f' := awF 0 1 (-1) 0 0) rfl)
 go_wp2_with fail
 clear c8 f8
 generalize (w2.setCell _ _) = w3 at *
 have O3 := hq9 (O2.out.trans SE.out.2 (fun b hb => .inl (by simp at hb; simp [hb])))
 go_wp2
 go_ret
 exact ⟨rfl, SE.out.1, O3.out⟩
theorem frames_Leave (wb gd cb cap : Nat) (B : ArB) (S : ArS) (D : Dev) (w : World) (f : Fr) (h : PtAt w wb gd cb cap B S D f) (x : Int) (h0 : S.has = [x]) (hx : x ≠ 0) :
  Calls Tryz.prog 322 #[.pointer (some ⟨B.a, 0, none⟩), .int .i64 0, .pointer (some ⟨wb, 2, none⟩)] w fun r w' => r = .returned (.tuple #[]) ∧ PtAt w' wb gd cb cap B { S with has := [0] } D { f with ph := 7 } ∧ Only [wb, B.rh] w w' := by
 have H := hq9 h
 have H0 := hq9 h0
 have HX := hq9 hx
 have HM := hq9 h.ar.mem
 clear h h0 hx
 go_enter Tryz.func322, Tryz.ntmps322
 go_wp2_with fail
 refine (arena_Readers w H.out.ar).mono ?_
 rintro r w' ⟨rfl, rfl⟩
 go_wp2_with fail
 refine (rdr_Leave B.r B.rh S.now S.has 0 x w H.out.ar.rdr (by rw [H0.out]; rfl) HX.out).mono ?_
 rintro r w2 ⟨rfl, r2, o2⟩
 have P2 := hq9 (H.out.ar2 o2 (fun b hb => by simp at hb; rw [hb]; exact HM.out.2.1) (H.out.ar.setRdr o2 (by rw [H0.out] at r2; exact r2)))
 have O2 := hq9 (o2.mono (T := [wb, B.rh]) (by simp))
 clear r2 o2
 have c7 : w2.cell? ⟨wb, 7, none⟩ = some (.int .i64 f.ph) := P2.out.wk.cell 7
 have f7 := P2.out.wk.frozen 7
 have SE := hq9 (P2.out.set 7 (.int .i64 7) (f' := { f with ph := 7 }) rfl)
 go_wp2_with fail
 clear c7 f7
 generalize (w2.setCell _ _) = w3 at *
 have O3 := hq9 (O2.out.trans SE.out.2 (fun b hb => .inl (by simp at hb; simp [hb])))
 go_wp2
 go_end0
 exact ⟨rfl, SE.out.1, O3.out⟩
def PtAns (wb gd cb cap : Nat) (B : ArB) (S : ArS) (D : Dev) (f : Fr) (w : World) (r : Ending) (w' : World) : Prop := r = .returned (.tuple #[]) ∧ ∃ B', B'.a = B.a ∧ PtAt w' wb gd cb cap B' S D f ∧ Only (wb :: turnT gd cb B) w w' ∧ ∀ b ∈ (arFs B').flatten, b ∈ (arFs B).flatten ∨ w.heap.size ≤ b
theorem PtAns.same {wb gd cb cap : Nat} {B : ArB} {S : ArS} {D : Dev} {f : Fr} {w w' : World} {T : List Nat} (h : PtAt w' wb gd cb cap B S D f) (o : Only T w w') (hT : ∀ b ∈ T, b = wb ∨ b = gd ∨ b = cb ∨ b ∈ (arFs B).flatten) : PtAns wb gd cb cap B S D f w (.returned (.tuple #[])) w' :=
 ⟨rfl, B, rfl, h, o.mono (fun b hb => by
  unfold turnT
  rcases hT b hb with rfl | rfl | rfl | h
  ·simp
  ·simp
  ·simp
  ·simp only [List.mem_cons]; exact .inr (.inr (.inr h))), fun b hb => .inl hb⟩
set_option maxHeartbeats 2000000 in
theorem pt_enter (wb gd cb cap : Nat) (B : ArB) (S : ArS) (D : Dev) (w : World) (h : PtAt w wb gd cb cap B S D (awF 0 0 (-1) 0 0)) (h0 : S.has = [0]) (h1 : S.C.now = 1) :
  Calls Tryz.prog 256 #[.pointer (some ⟨wb, 0, none⟩)] w fun r w' => PtAns wb gd cb cap B { S with has := [S.now] } D (awF 1 1 (-1) 0 0) w r w' := by
 have H := hq9 h
 have HE := hq9 (fun W o => frames_Enter wb gd cb cap B S D W (h.keep o) h0 h1)
 have HM := hq9 h.ar.mem
 have HN := hq9 (h.ne2 h.ar.mem.2.1)
 have s0 : w.drew.cell? ⟨wb, 0, none⟩ = some (.pointer (some ⟨B.a, 0, none⟩)) ∧ w.drew.cell? ⟨wb, 1, none⟩ = some (.int .i64 0) := ⟨(Blk.drew h.wk).cell 0, (Blk.drew h.wk).cell 1⟩
 clear h h0 h1
 go_enter Tryz.func256, Tryz.ntmps256
 go_wp2_with fail
 go_region_held3 (fun w' => w'.cell? ⟨wb, 0, none⟩ = some (.pointer (some ⟨B.a, 0, none⟩)) ∧ w'.cell? ⟨wb, 1, none⟩ = some (.int .i64 0))
  (first | (with_reducible assumption) | (with_reducible exact s0) | (with_reducible exact s1) | go_keep)
  (first | (go_at_call 311; refine (HE.out w.drew (Only.refl [] w).drew).mono ?_; rintro r w1 ⟨rfl, p1, o1⟩; have P1 := hq9 p1; have O1 := hq9 ((Only.refl [] w).drew.mono (T := [wb, B.rh]) (by simp) |>.trans o1 (fun b hb => .inl hb)); have s1 : w1.cell? ⟨wb, 0, none⟩ = some (.pointer (some ⟨B.a, 0, none⟩)) ∧ w1.cell? ⟨wb, 1, none⟩ = some (.int .i64 0) := ⟨p1.wk.cell 0, p1.wk.cell 1⟩; clear p1 o1))
 clear s0 s1
 have c7 : w1.cell? ⟨wb, 7, none⟩ = some (.int .i64 0) := P1.out.wk.cell 7
 have f7 := P1.out.wk.frozen 7
 have SE := hq9 (P1.out.set 7 (.int .i64 1) (f' := awF 1 1 (-1) 0 0) rfl)
 go_wp2_with fail
 clear c7 f7
 generalize (w1.setCell _ _) = w3 at *
 have O3 := hq9 (O1.out.trans SE.out.2 (fun b hb => .inl (by simp at hb; simp [hb])))
 go_wp2
 go_end0
 exact PtAns.same SE.out.1 O3.out (fun b hb => by
  simp at hb
  rcases hb with rfl | rfl
  ·exact .inl rfl
  ·exact .inr (.inr (.inr HM.out.2.1)))
set_option maxHeartbeats 2000000 in
theorem pt_leave (wb gd cb cap : Nat) (B : ArB) (S : ArS) (D : Dev) (w : World) (f : Fr) (h : PtAt w wb gd cb cap B S D f) (x : Int) (h0 : S.has = [x]) (hx : x ≠ 0) :
  Calls Tryz.prog 262 #[.pointer (some ⟨wb, 0, none⟩)] w fun r w' => PtAns wb gd cb cap B { S with has := [0] } D { f with ph := 7 } w r w' := by
 have H := hq9 h
 have HE := hq9 (fun W o => frames_Leave wb gd cb cap B S D W f (h.keep o) x h0 hx)
 have HM := hq9 h.ar.mem
 have s0 : w.drew.cell? ⟨wb, 0, none⟩ = some (.pointer (some ⟨B.a, 0, none⟩)) ∧ w.drew.cell? ⟨wb, 1, none⟩ = some (.int .i64 0) := ⟨(Blk.drew h.wk).cell 0, (Blk.drew h.wk).cell 1⟩
 clear h h0 hx
 go_enter Tryz.func262, Tryz.ntmps262
 go_wp2_with fail
 go_region_held3 (fun w' => w'.cell? ⟨wb, 0, none⟩ = some (.pointer (some ⟨B.a, 0, none⟩)) ∧ w'.cell? ⟨wb, 1, none⟩ = some (.int .i64 0))
  (first | (with_reducible assumption) | (with_reducible exact s0) | (with_reducible exact s1) | go_keep)
  (first | (go_at_call 322; refine (HE.out w.drew (Only.refl [] w).drew).mono ?_; rintro r w1 ⟨rfl, p1, o1⟩; have P1 := hq9 p1; have O1 := hq9 ((Only.refl [] w).drew.mono (T := [wb, B.rh]) (by simp) |>.trans o1 (fun b hb => .inl hb)); have s1 : w1.cell? ⟨wb, 0, none⟩ = some (.pointer (some ⟨B.a, 0, none⟩)) ∧ w1.cell? ⟨wb, 1, none⟩ = some (.int .i64 0) := ⟨p1.wk.cell 0, p1.wk.cell 1⟩; clear p1 o1))
 clear s0 s1
 go_wp2
 go_end0
 exact PtAns.same P1.out O1.out (fun b hb => by
  simp at hb
  rcases hb with rfl | rfl
  ·exact .inl rfl
  ·exact .inr (.inr (.inr HM.out.2.1)))
end Go.Proofs.YtlggichakafkiaaGreat
namespace Go.Proofs.YtlggichakafkiaaGreat
open Go.BigFrame Go.RowKit Go.Proofs.FuMem Go.Proofs.FuTop Go.Proofs.FuNvm Go.Proofs.FuPool Go.Proofs.FuClk Go.Proofs.FuBlock Go.Proofs.FuClass Go.Proofs.FuCrc
set_option maxRecDepth 100000
theorem frames_Size (w : World) : Calls Tryz.prog 319 #[.agg putC.toArray] w fun e w' => e = .returned (.int .i64 2) ∧ Only [] w w' := by
 have B1 := Blk.new w 40 putC.toArray
 have O1 := hq9 ((Only.refl [] w).alloc (.cells putC.toArray 40))
 unfold putC callC putK putV at *
 have c0 := B1.cell 0
 have c1 := B1.cell 1
 have c2 := B1.cell 2
 clear B1
 go_enter Tryz.func319, Tryz.ntmps319
 go_wp2
 go_ret
 exact ⟨rfl, O1.out⟩
theorem take_two : takeA (newPool 2) 0 = (2, 0) := by decide
theorem frames_Take (wb gd cb cap : Nat) (B : ArB) (S : ArS) (D : Dev) (w : World) (f : Fr) (h : PtAt w wb gd cb cap B S D f) (h0 : S.P = newPool 2) :
  Calls Tryz.prog 318 #[.pointer (some ⟨B.a, 0, none⟩), .int .i64 2] w fun r w' => r = .returned (.tuple #[.int .i64 2, .int .i64 0, .int .i64 0]) ∧ PtAt w' wb gd cb cap B { S with P := takeP (newPool 2) 0 } D f ∧ Only [B.ps] w w' := by
 have H := hq9 h
 have HM := hq9 h.ar.mem
 have HN := hq9 (fun w => class_Need 2 w (by omega))
 rw [show need 2 = 0 from rfl] at HN
 have HT := hq9 (pool_Take B.p B.ps S.P 0 w h.ar.pool (by rw [h0]; exact newPool_ok 2) (by omega))
 rw [h0, take_two] at HT
 clear h h0
 go_enter Tryz.func318, Tryz.ntmps318
 go_wp2_with fail
 refine (HN.out w).mono ?_
 rintro r w' ⟨rfl, rfl⟩
 go_wp2_with fail
 refine (arena_Pool w H.out.ar).mono ?_
 rintro r w' ⟨rfl, rfl⟩
 go_wp2_with fail
 refine HT.out.mono ?_
 rintro r w2 ⟨rfl, p2, o2⟩
 have P2 := hq9 (H.out.ar2 o2 (fun b hb => by simp at hb; rw [hb]; exact HM.out.2.2.1) (H.out.ar.setPool o2 p2))
 have O2 := hq9 o2
 clear p2 o2
 go_wp2
 refine bodyPost_ret (v := .tuple #[.int .i64 2, .int .i64 0, .int .i64 0]) (by simp [results, Tryz.results318, go_sem]) rfl ⟨rfl, P2.out, O2.out⟩
set_option maxHeartbeats 2000000 in
theorem pt_take (wb gd cb cap : Nat) (B : ArB) (S : ArS) (D : Dev) (w : World) (h : PtAt w wb gd cb cap B S D (awF 3 1 (-1) 0 0)) (h0 : S.P = newPool 2) :
  Calls Tryz.prog 259 #[.pointer (some ⟨wb, 0, none⟩)] w fun r w' => PtAns wb gd cb cap B { S with P := takeP (newPool 2) 0 } D (awF 4 1 2 0 0) w r w' := by
 have H := hq9 h
 have HE := hq9 (fun W o => frames_Take wb gd cb cap B S D W (awF 3 1 (-1) 0 0) (h.keep o) h0)
 have HM := hq9 h.ar.mem
 have HSZ := hq9 frames_Size
 unfold putC callC putK putV at HSZ
 have HS := hq9 (show ∀ W, Blk W wb 354 (wkC B.a (awF 3 1 (-1) 0 0)).toArray → W.cell? ⟨wb, 0, none⟩ = some (.pointer (some ⟨B.a, 0, none⟩)) ∧ W.cell? ⟨wb, 2, none⟩ = some (.int .i64 2) ∧ W.cell? ⟨wb, 3, none⟩ = some (.string ⟨#[97]⟩) ∧ W.cell? ⟨wb, 4, none⟩ = some (.string ⟨#[49]⟩) ∧ W.cell? ⟨wb, 5, none⟩ = some (.string ⟨#[]⟩) ∧ W.cell? ⟨wb, 6, none⟩ = some (.slice none 0 0) from fun W hb => ⟨hb.cell 0, hb.cell 2, hb.cell 3, hb.cell 4, hb.cell 5, hb.cell 6⟩)
 have s0 := HS.out w.drew (Blk.drew h.wk)
 clear h h0
 go_enter Tryz.func259, Tryz.ntmps259
 go_wp2_with fail
 go_region_held3 (fun w' => w'.cell? ⟨wb, 0, none⟩ = some (.pointer (some ⟨B.a, 0, none⟩)) ∧ w'.cell? ⟨wb, 2, none⟩ = some (.int .i64 2) ∧ w'.cell? ⟨wb, 3, none⟩ = some (.string ⟨#[97]⟩) ∧ w'.cell? ⟨wb, 4, none⟩ = some (.string ⟨#[49]⟩) ∧ w'.cell? ⟨wb, 5, none⟩ = some (.string ⟨#[]⟩) ∧ w'.cell? ⟨wb, 6, none⟩ = some (.slice none 0 0))
  (first | (with_reducible assumption) | (with_reducible exact s0) | (with_reducible exact s1) | (with_reducible exact s2) | go_keep)
  (first
   | (go_at_call 319; refine (HSZ.out _).mono ?_; rintro r w1 ⟨rfl, o1⟩; have O1 := hq9 ((Only.refl [] w).drew.trans0 o1); have s1 := HS.out w1 (H.out.keep O1.out).wk; clear o1)
   | (go_at_call 318; refine (HE.out w1 O1.out).mono ?_; rintro r w2 ⟨rfl, p2, o2⟩; have P2 := hq9 p2; have O2 := hq9 ((O1.out.mono (T := [wb, B.ps]) (by simp)).trans o2 (fun b hb => .inl (List.mem_cons_of_mem _ hb))); have s2 := HS.out w2 p2.wk; clear p2 o2))
 clear s0 s1 s2
 have c19 : w2.cell? ⟨wb, 19, none⟩ = some (.int .i64 0) := P2.out.wk.cell 19
 have c18 : w2.cell? ⟨wb, 18, none⟩ = some (.int .i64 (-1)) := P2.out.wk.cell 18
 have c20 : w2.cell? ⟨wb, 20, none⟩ = some (.int .i64 0) := P2.out.wk.cell 20
 have c7 : w2.cell? ⟨wb, 7, none⟩ = some (.int .i64 3) := P2.out.wk.cell 7
 have f19 := P2.out.wk.frozen 19
 have f18 := P2.out.wk.frozen 18
 have f20 := P2.out.wk.frozen 20
 have f7 := P2.out.wk.frozen 7
 have S1 := P2.out.set 19 (.int .i64 0) (f' := awF 3 1 (-1) 0 0) rfl
 have S2 := S1.1.set 18 (.int .i64 2) (f' := awF 3 1 2 0 0) rfl
 have S3 := S2.1.set 20 (.int .i64 0) (f' := awF 3 1 2 0 0) rfl
 have S4 := S3.1.set 7 (.int .i64 4) (f' := awF 4 1 2 0 0) rfl
 have SE := hq9 S4.1
 have O3 := hq9 ((((O2.out.trans S1.2 (fun b hb => .inl (by simp at hb; simp [hb]))).trans S2.2 (fun b hb => .inl (by simp at hb; simp [hb]))).trans S3.2 (fun b hb => .inl (by simp at hb; simp [hb]))).trans S4.2 (fun b hb => .inl (by simp at hb; simp [hb])))
 clear S1 S2 S3 S4
 go_wp2_with fail
 clear c19 c18 c20 c7 f19 f18 f20 f7
 generalize ((((World.setCell _ _ _).setCell _ _).setCell _ _).setCell _ _) = w3 at *
 go_wp2
 go_end0
 exact PtAns.same SE.out O3.out (fun b hb => by
  simp at hb
  rcases hb with rfl | rfl
  ·exact .inl rfl
  ·exact .inr (.inr (.inr HM.out.2.2.1)))
set_option maxHeartbeats 2000000 in
theorem frames_Write (wb gd cb cap : Nat) (B : ArB) (S : ArS) (D : Dev) (w : World) (f : Fr) (h : PtAt w wb gd cb cap B S D f) :
  Calls Tryz.prog 320 #[.pointer (some ⟨B.a, 0, none⟩), .agg putC.toArray, .int .i64 2, .int .i64 0, .int .i64 0] w fun r w' => r = .returned (.bool true) ∧ PtAt w' wb gd cb cap B S (store1 D 2 0 (draftOf 0)) f ∧ Only [gd, cb] w w' := by
 have OX := hq9 ((Only.refl [] w).alloc (.cells putC.toArray 40))
 have H := hq9 (h.keep OX.out)
 have HSP := hq9 (fun w => class_Span 0 w (by omega))
 rw [show span 0 = 1 from rfl] at HSP
 have HDR := hq9 (fun w => block_Draft 0 w (by omega))
 have HDL := hq9 (show (draftOf 0).length ≤ maxLen from Nat.le_trans (draftOf_le 0) (by decide))
 generalize draftOf 0 = dl at *
 clear h
 go_enter Tryz.func320, Tryz.ntmps320
 go_wp2_with fail
 generalize (w.alloc _) = w1 at *
 refine (arena_Dev w1 H.out.ar).mono ?_
 rintro r w' ⟨rfl, rfl⟩
 go_wp2_with fail
 refine (HDR.out w1).mono ?_
 rintro r w2 ⟨v2, rfl, hv2⟩
 obtain ⟨A2, c2, rfl, hb2, _, o2⟩ := madeB_bs hv2
 have H2 := hq9 (H.out.keep o2)
 have BS := hq9 hb2
 have O2 := hq9 (OX.out.trans0 o2)
 clear hv2 hb2 o2
 go_wp2_with fail
 refine (nvm_Store_any gd cb cap D 2 0 A2 dl.length c2 dl w2 H2.out.dev BS.out HDL.out).mono ?_
 rintro r w3 ⟨rfl, d3, o3⟩
 have hn := H2.out.ne
 unfold turnT at hn
 simp only [List.mem_cons, not_or] at hn
 have H3 := hq9 (show PtAt w3 wb gd cb cap B S (store1 D 2 0 dl) f from ⟨H2.out.wk.only o3 (by simp [hn.1, hn.2.1]), H2.out.ar.keep o3 (fun b hb h => by
  have := H2.out.ne2 hb
  simp at h
  rcases h with rfl | rfl
  ·exact this.2.1 rfl
  ·exact this.2.2 rfl), d3, H2.out.ne, H2.out.gd0, H2.out.cb0⟩)
 have O3 := hq9 ((O2.out.mono (T := [gd, cb]) (by simp)).trans o3 (fun b hb => .inl hb))
 clear d3 o3 hn
 go_wp2_with fail
 refine (HSP.out w3).mono ?_
 rintro r w' ⟨rfl, rfl⟩
 go_wp2
 go_ret
 exact ⟨rfl, H3.out, O3.out⟩
set_option maxHeartbeats 2000000 in
theorem pt_write (wb gd cb cap : Nat) (B : ArB) (S : ArS) (D : Dev) (w : World) (h : PtAt w wb gd cb cap B S D (awF 4 1 2 0 0)) :
  Calls Tryz.prog 260 #[.pointer (some ⟨wb, 0, none⟩)] w fun r w' => PtAns wb gd cb cap B S (store1 D 2 0 (draftOf 0)) (awF 5 1 2 0 0) w r w' := by
 have H := hq9 h
 have HE := hq9 (fun W o => frames_Write wb gd cb cap B S D W (awF 4 1 2 0 0) (h.keep o))
 unfold putC callC putK putV at HE
 generalize store1 D 2 0 (draftOf 0) = D' at *
 have HS := hq9 (show ∀ W, Blk W wb 354 (wkC B.a (awF 4 1 2 0 0)).toArray → W.cell? ⟨wb, 0, none⟩ = some (.pointer (some ⟨B.a, 0, none⟩)) ∧ W.cell? ⟨wb, 2, none⟩ = some (.int .i64 2) ∧ W.cell? ⟨wb, 3, none⟩ = some (.string ⟨#[97]⟩) ∧ W.cell? ⟨wb, 4, none⟩ = some (.string ⟨#[49]⟩) ∧ W.cell? ⟨wb, 5, none⟩ = some (.string ⟨#[]⟩) ∧ W.cell? ⟨wb, 6, none⟩ = some (.slice none 0 0) ∧ W.cell? ⟨wb, 18, none⟩ = some (.int .i64 2) ∧ W.cell? ⟨wb, 19, none⟩ = some (.int .i64 0) ∧ W.cell? ⟨wb, 20, none⟩ = some (.int .i64 0) from fun W hb => ⟨hb.cell 0, hb.cell 2, hb.cell 3, hb.cell 4, hb.cell 5, hb.cell 6, hb.cell 18, hb.cell 19, hb.cell 20⟩)
 have s0 := HS.out w.drew (Blk.drew h.wk)
 clear h
 go_enter Tryz.func260, Tryz.ntmps260
 go_wp2_with fail
 go_region_held3 (fun w' => w'.cell? ⟨wb, 0, none⟩ = some (.pointer (some ⟨B.a, 0, none⟩)) ∧ w'.cell? ⟨wb, 2, none⟩ = some (.int .i64 2) ∧ w'.cell? ⟨wb, 3, none⟩ = some (.string ⟨#[97]⟩) ∧ w'.cell? ⟨wb, 4, none⟩ = some (.string ⟨#[49]⟩) ∧ w'.cell? ⟨wb, 5, none⟩ = some (.string ⟨#[]⟩) ∧ w'.cell? ⟨wb, 6, none⟩ = some (.slice none 0 0) ∧ w'.cell? ⟨wb, 18, none⟩ = some (.int .i64 2) ∧ w'.cell? ⟨wb, 19, none⟩ = some (.int .i64 0) ∧ w'.cell? ⟨wb, 20, none⟩ = some (.int .i64 0))
  (first | (with_reducible assumption) | (with_reducible exact s0) | (with_reducible exact s2) | go_keep)
  (first | (go_at_call 320; refine (HE.out w.drew (Only.refl [] w).drew).mono ?_; rintro r w2 ⟨rfl, p2, o2⟩; have P2 := hq9 p2; have O2 := hq9 (((Only.refl [] w).drew.mono (T := [wb, gd, cb]) (by simp)).trans o2 (fun b hb => .inl (List.mem_cons_of_mem _ hb))); have s2 := HS.out w2 p2.wk; clear p2 o2))
 clear s0 s2
 have c20 : w2.cell? ⟨wb, 20, none⟩ = some (.int .i64 0) := P2.out.wk.cell 20
 have c7 : w2.cell? ⟨wb, 7, none⟩ = some (.int .i64 4) := P2.out.wk.cell 7
 have f20 := P2.out.wk.frozen 20
 have f7 := P2.out.wk.frozen 7
 have S1 := P2.out.set 20 (.int .i64 1) (f' := awF 4 1 2 1 0) rfl
 have S2 := S1.1.set 20 (.int .i64 0) (f' := awF 4 1 2 0 0) rfl
 have S3 := S2.1.set 7 (.int .i64 5) (f' := awF 5 1 2 0 0) rfl
 have SE := hq9 S3.1
 have O3 := hq9 (((O2.out.trans S1.2 (fun b hb => .inl (by simp at hb; simp [hb]))).trans S2.2 (fun b hb => .inl (by simp at hb; simp [hb]))).trans S3.2 (fun b hb => .inl (by simp at hb; simp [hb])))
 clear S1 S2 S3
 go_wp2_with fail
 clear c20 c7 f20 f7
 generalize (((World.setCell _ _ _).setCell _ _).setCell _ _) = w3 at *
 go_wp2
 go_end0
 exact PtAns.same SE.out O3.out (fun b hb => by
  simp at hb
  rcases hb with rfl | rfl | rfl
  ·exact .inl rfl
  ·exact .inr (.inl rfl)
  ·exact .inr (.inr (.inl rfl)))
set_option maxHeartbeats 4000000 in
theorem pt_find (wb gd cb cap : Nat) (B : ArB) (S : ArS) (D : Dev) (w : World) (h : PtAt w wb gd cb cap B S D (awF 1 1 (-1) 0 0)) (h0 : S.T = []) :
  Calls Tryz.prog 257 #[.pointer (some ⟨wb, 0, none⟩)] w fun r w' => PtAns wb gd cb cap B S D (awF 3 1 (-1) 0 0) w r w' := by
 have H := hq9 h
 have HB := hq9 (fun w => place_Bucket ⟨#[97]⟩ w (by decide))
 have hbk : crc (ByteArray.mk #[97]).data.toList % 8 < 8 := Nat.mod_lt _ (by decide)
 have HNX := hq9 (fun W o => tab_Next B.t B.ts S.T (crc (ByteArray.mk #[97]).data.toList % 8) [] false W (h.keep o).ar.tab hbk (by rw [h0]; decide) (by decide))
 rw [h0] at HNX
 generalize crc (ByteArray.mk #[97]).data.toList % 8 = bk at *
 rw [show nextOf [] bk [] false = none from rfl, show linkV ((none : Option Link).getD noLink) = .agg #[.string ⟨#[]⟩, .int .u64 0, .int .u64 0, .int .i64 0, .int .i64 0] from rfl, show (none : Option Link).isSome = false from rfl, show (⟨([] : List UInt8).toArray⟩ : ByteArray) = ⟨#[]⟩ from rfl] at HNX
 have HS := hq9 (show ∀ W, Blk W wb 354 (wkC B.a (awF 1 1 (-1) 0 0)).toArray → W.cell? ⟨wb, 0, none⟩ = some (.pointer (some ⟨B.a, 0, none⟩)) ∧ W.cell? ⟨wb, 3, none⟩ = some (.string ⟨#[97]⟩) ∧ W.cell? ⟨wb, 9, none⟩ = some (.string ⟨#[]⟩) ∧ W.cell? ⟨wb, 10, none⟩ = some (.bool false) from fun W hb => ⟨hb.cell 0, hb.cell 3, hb.cell 9, hb.cell 10⟩)
 have s0 := HS.out w.drew (Blk.drew h.wk)
 have oz := ((Only.refl [] w).alloc (.cells #[.string ⟨#[]⟩, .int .u64 0, .int .u64 0, .int .i64 0, .int .i64 0] 70)).drew
 have sA := HS.out _ (h.keep oz).wk
 have BZ := hq9 (show Blk (w.alloc (.cells #[.string ⟨#[]⟩, .int .u64 0, .int .u64 0, .int .i64 0, .int .i64 0] 70)).drew w.heap.size 70 #[.string ⟨#[]⟩, .int .u64 0, .int .u64 0, .int .i64 0, .int .i64 0] from Blk.drew (Blk.new w 70 #[.string ⟨#[]⟩, .int .u64 0, .int .u64 0, .int .i64 0, .int .i64 0]))
 have OZ := hq9 oz
 have OD := hq9 (Only.refl [] w).drew
 have FA := hq9 (show ∀ W, Only [] w W → PtAt (W.alloc (.cells #[.string ⟨#[]⟩, .int .u64 0, .int .u64 0, .int .i64 0, .int .i64 0] 70)) wb gd cb cap B S D (awF 1 1 (-1) 0 0) ∧ Only [] w (W.alloc (.cells #[.string ⟨#[]⟩, .int .u64 0, .int .u64 0, .int .i64 0, .int .i64 0] 70)) from fun W o => ⟨h.keep (o.alloc _), o.alloc _⟩)
 have FB := hq9 (show ∀ W, Only [] w W → PtAt (((((W.setCell ⟨w.heap.size, 0, none⟩ (.string ⟨#[]⟩)).setCell ⟨w.heap.size, 1, none⟩ (.int .u64 0)).setCell ⟨w.heap.size, 2, none⟩ (.int .u64 0)).setCell ⟨w.heap.size, 3, none⟩ (.int .i64 0)).setCell ⟨w.heap.size, 4, none⟩ (.int .i64 0)) wb gd cb cap B S D (awF 1 1 (-1) 0 0) ∧ Only [] w (((((W.setCell ⟨w.heap.size, 0, none⟩ (.string ⟨#[]⟩)).setCell ⟨w.heap.size, 1, none⟩ (.int .u64 0)).setCell ⟨w.heap.size, 2, none⟩ (.int .u64 0)).setCell ⟨w.heap.size, 3, none⟩ (.int .i64 0)).setCell ⟨w.heap.size, 4, none⟩ (.int .i64 0)) from fun W o => by
  have hs : ∀ {W' : World} (i : Nat) (v : Value), Only [] w W' → Only [] w (W'.setCell ⟨w.heap.size, i, none⟩ v) := fun i v ho => ho.setCell (p := ⟨w.heap.size, i, none⟩) (.inr (Nat.le_refl _)) v
  have := hs 4 (.int .i64 0) (hs 3 (.int .i64 0) (hs 2 (.int .u64 0) (hs 1 (.int .u64 0) (hs 0 (.string ⟨#[]⟩) o))))
  exact ⟨h.keep this, this⟩)
 clear h h0 hbk oz
 go_enter Tryz.func257, Tryz.ntmps257
 go_wp2_with fail
 go_region_held3 (fun w' => w'.cell? ⟨wb, 0, none⟩ = some (.pointer (some ⟨B.a, 0, none⟩)) ∧ w'.cell? ⟨wb, 3, none⟩ = some (.string ⟨#[97]⟩) ∧ w'.cell? ⟨wb, 9, none⟩ = some (.string ⟨#[]⟩) ∧ w'.cell? ⟨wb, 10, none⟩ = some (.bool false))
  (first | (with_reducible assumption) | (with_reducible exact s0) | (with_reducible exact sA) | (with_reducible exact s1) | (with_reducible exact (HS.out _ (FA.out w1 O1.out).1.wk)) | (with_reducible exact (HS.out _ (FB.out w1 O1.out).1.wk)) | go_keep)
  (first
   | (go_at_call 110; (first | (with_reducible refine (arena_Table w.drew (H.out.keep OD.out).ar).mono ?_) | (with_reducible refine (arena_Table (w.alloc (.cells #[.string ⟨#[]⟩, .int .u64 0, .int .u64 0, .int .i64 0, .int .i64 0] 70)).drew (H.out.keep OZ.out).ar).mono ?_)); rintro r w' ⟨rfl, rfl⟩)
   | (go_at_call 313; refine (HB.out _).mono ?_; rintro r w' ⟨rfl, rfl⟩)
   | (go_at_call 312; (with_reducible refine (HNX.out w.drew OD.out).mono ?_); rintro r w1 ⟨rfl, o1⟩; have O1 := hq9 (OD.out.trans0 o1); have s1 := HS.out w1 (H.out.keep O1.out).wk; clear o1)
   | (go_at_call 312; (with_reducible refine (HNX.out (w.alloc (.cells #[.string ⟨#[]⟩, .int .u64 0, .int .u64 0, .int .i64 0, .int .i64 0] 70)).drew OZ.out).mono ?_); rintro r w1 ⟨rfl, o1⟩; have O1 := hq9 (OZ.out.trans0 o1); have s1 := HS.out w1 (H.out.keep O1.out).wk; have bz := BZ.out.only o1 (by simp); have b0 := bz.cell 0; have b1 := bz.cell 1; have b2 := bz.cell 2; have b3 := bz.cell 3; have b4 := bz.cell 4; have z0 := bz.frozen 0; have z1 := bz.frozen 1; have z2 := bz.frozen 2; have z3 := bz.frozen 3; have z4 := bz.frozen 4; clear o1 bz))
 all_goals
  (first
   | ((with_reducible show Exit.then _ _ _ _ (World.alloc _ _)); have FX := hq9 (FA.out w1 O1.out); generalize (w1.alloc (.cells #[.string ⟨#[]⟩, .int .u64 0, .int .u64 0, .int .i64 0, .int .i64 0] 70)) = w2 at *)
   | ((with_reducible show Exit.then _ _ _ _ (World.setCell _ _ _)); have FX := hq9 (FB.out w1 O1.out); generalize (((((w1.setCell ⟨w.heap.size, 0, none⟩ (.string ⟨#[]⟩)).setCell ⟨w.heap.size, 1, none⟩ (.int .u64 0)).setCell ⟨w.heap.size, 2, none⟩ (.int .u64 0)).setCell ⟨w.heap.size, 3, none⟩ (.int .i64 0)).setCell ⟨w.heap.size, 4, none⟩ (.int .i64 0)) = w2 at *))
  clear s0 sA s1 FA FB
  (try clear b0 b1 b2 b3 b4 z0 z1 z2 z3 z4)
  go_wp2_with fail
  refine wp_region_later w2 (by kernel_rfl) (by kernel_rfl) ?_
  repeat (go_big_quiet_step (fail))
  repeat (go_big_quiet_step (fail))
  refine wpQuiet_nil ?_
  intro _ hw'
  obtain ⟨p, hw''⟩ := hw'
  subst hw''
  have opw := p.only
  generalize p.w = w3 at *
  have P3 := hq9 (FX.out.1.keep opw)
  have O3 := hq9 (FX.out.2.trans0 opw)
  clear opw FX
  have c12 : w3.cell? ⟨wb, 12, none⟩ = some (.bool false) := P3.out.wk.cell 12
  have c13 : w3.cell? ⟨wb, 13, none⟩ = some (.string ⟨#[]⟩) := P3.out.wk.cell 13
  have c14 : w3.cell? ⟨wb, 14, none⟩ = some (.int .u64 0) := P3.out.wk.cell 14
  have c15 : w3.cell? ⟨wb, 15, none⟩ = some (.int .u64 0) := P3.out.wk.cell 15
  have c16 : w3.cell? ⟨wb, 16, none⟩ = some (.int .i64 0) := P3.out.wk.cell 16
  have c17 : w3.cell? ⟨wb, 17, none⟩ = some (.int .i64 0) := P3.out.wk.cell 17
  have f12 := P3.out.wk.frozen 12
  have f13 := P3.out.wk.frozen 13
  have f14 := P3.out.wk.frozen 14
  have f15 := P3.out.wk.frozen 15
  have f16 := P3.out.wk.frozen 16
  have f17 := P3.out.wk.frozen 17
  have S1 := P3.out.set 12 (.bool false) (f' := awF 1 1 (-1) 0 0) rfl
  have S2 := S1.1.set 13 (.string ⟨#[]⟩) (f' := awF 1 1 (-1) 0 0) rfl
  have S3 := S2.1.set 14 (.int .u64 0) (f' := awF 1 1 (-1) 0 0) rfl
  have S4 := S3.1.set 15 (.int .u64 0) (f' := awF 1 1 (-1) 0 0) rfl
  have S5 := S4.1.set 16 (.int .i64 0) (f' := awF 1 1 (-1) 0 0) rfl
  have S6 := S5.1.set 17 (.int .i64 0) (f' := awF 1 1 (-1) 0 0) rfl
  have P4 := hq9 S6.1
  have O4 := hq9 (((((((O3.out.mono (T := [wb]) (by simp)).trans S1.2 (fun b hb => .inl hb)).trans S2.2 (fun b hb => .inl hb)).trans S3.2 (fun b hb => .inl hb)).trans S4.2 (fun b hb => .inl hb)).trans S5.2 (fun b hb => .inl hb)).trans S6.2 (fun b hb => .inl hb))
  clear S1 S2 S3 S4 S5 S6
  go_wp2_with fail
  clear c12 c13 c14 c15 c16 c17 f12 f13 f14 f15 f16 f17
  generalize ((((((World.setCell _ _ _).setCell _ _).setCell _ _).setCell _ _).setCell _ _).setCell _ _) = w4 at *
  refine wp_region_later w4 (by kernel_rfl) (by kernel_rfl) ?_
  repeat (go_big_quiet_step (fail))
  repeat (go_big_quiet_step (fail))
  refine wpQuiet_nil ?_
  intro _ hw'
  obtain ⟨p, hw''⟩ := hw'
  subst hw''
  have opw := p.only
  generalize p.w = w5 at *
  have P5 := hq9 (P4.out.keep opw)
  have O5 := hq9 (O4.out.trans0 opw)
  clear opw P4 O4 P3 O3
  have c2 : w5.cell? ⟨wb, 2, none⟩ = some (.int .i64 2) := P5.out.wk.cell 2
  have c18 : w5.cell? ⟨wb, 18, none⟩ = some (.int .i64 (-1)) := P5.out.wk.cell 18
  have c7 : w5.cell? ⟨wb, 7, none⟩ = some (.int .i64 1) := P5.out.wk.cell 7
  have f7 := P5.out.wk.frozen 7
  have SE := P5.out.set 7 (.int .i64 3) (f' := awF 3 1 (-1) 0 0) rfl
  have P6 := hq9 SE.1
  have O6 := hq9 (O5.out.trans SE.2 (fun b hb => .inl hb))
  clear SE
  go_wp2_with fail
  clear c2 c18 c7 f7
  generalize (World.setCell _ _ _) = w6 at *
  go_wp2
  go_end0
  exact PtAns.same P6.out O6.out (fun b hb => .inl (by simpa using hb))
end Go.Proofs.YtlggichakafkiaaGreat
namespace Go.Proofs.YtlggichakafkiaaGreat
open Go.BigFrame Go.RowKit Go.Proofs.FuMem Go.Proofs.FuTop Go.Proofs.FuNvm Go.Proofs.FuPool Go.Proofs.FuClk Go.Proofs.FuBlock Go.Proofs.FuClass Go.Proofs.FuCrc
set_option maxRecDepth 100000
def chC : List Value := [.int .i64 2, .string ⟨#[97]⟩, .string ⟨#[49]⟩, .bool false, .string ⟨#[]⟩, .int .u64 0, .int .u64 0, .int .i64 0, .int .i64 0, .int .i64 2, .int .i64 0]
theorem arena_mapped (w : World) : Calls Tryz.prog 390 #[.agg chC.toArray] w fun e w' => e = .returned (.bool true) ∧ Only [] w w' := by
 have B1 := Blk.new w 447 chC.toArray
 have O1 := hq9 ((Only.refl [] w).alloc (.cells chC.toArray 447))
 unfold chC at *
 have c0 := B1.cell 0
 clear B1
 go_enter Tryz.func390, Tryz.ntmps390
 go_wp2
 go_ret
 exact ⟨rfl, O1.out⟩
theorem arena_needs (w : World) : Calls Tryz.prog 370 #[.agg chC.toArray] w fun e w' => e = .returned (.bool true) ∧ Only [] w w' := by
 have B1 := Blk.new w 447 chC.toArray
 have O1 := hq9 ((Only.refl [] w).alloc (.cells chC.toArray 447))
 unfold chC at *
 have c0 := B1.cell 0
 clear B1
 go_enter Tryz.func370, Tryz.ntmps370
 go_wp2
 go_ret
 exact ⟨rfl, O1.out⟩
set_option maxHeartbeats 4000000 in
theorem arena_shaped (lb : Nat) (w : World) (h : Blk w lb 447 chC.toArray) :
  Calls Tryz.prog 366 #[.slice (some ⟨lb, 0, none⟩) 1 1] w fun e w' => e = .returned (.bool true) ∧ Only [] w w' := by
 have H := hq9 h
 have SL := run_slice_to0 (P := Tryz.prog) Tryz.underlying448 (show Tryz.prog.info? 447 = some _ from rfl) (some ⟨lb, 0, none⟩) 1 1
 clear h
 unfold chC at *
 go_enter Tryz.func366, Tryz.ntmps366
 go_wp2_with fail
 go_loopw [17] (fun vi wr => ∃ i : Nat, vi = .int .i64 i ∧ i ≤ 1 ∧ Only [] w wr) (fun vi _ => 1 - (intOf vi).toNat)
 case atStart => exact ⟨0, rfl, by omega, Only.refl _ _⟩
 case round =>
  obtain ⟨i, rfl, hi, ho⟩ := hrel
  have ON := hq9 ho
  have HW := hq9 (H.out.only ho (by simp))
  clear ho
  rcases (show i = 0 ∨ i = 1 by omega) with rfl | rfl
  ·have OX := hq9 (ON.out.trans0 ((Only.refl [] wr).alloc (.cells #[.int .i64 2, .string ⟨#[97]⟩, .string ⟨#[49]⟩, .bool false, .string ⟨#[]⟩, .int .u64 0, .int .u64 0, .int .i64 0, .int .i64 0, .int .i64 2, .int .i64 0] 447)))
   have BX := hq9 (Blk.new wr 447 #[.int .i64 2, .string ⟨#[97]⟩, .string ⟨#[49]⟩, .bool false, .string ⟨#[]⟩, .int .u64 0, .int .u64 0, .int .i64 0, .int .i64 0, .int .i64 2, .int .i64 0])
   have x0 := BX.out.cell 0
   rw [show ((0 : Nat) : Int) = 0 from rfl]
   go_wp2_with ((with_reducible show wpList _ _ _ (Oper.mk (some 21) _ _ _ _ _ :: _) _ _); refine wpList_load_part rfl 447 (.tmp 20) rfl lb 0 rfl 447 _ HW.out [.int .i64 2, .string ⟨#[97]⟩, .string ⟨#[49]⟩, .bool false, .string ⟨#[]⟩, .int .u64 0, .int .u64 0, .int .i64 0, .int .i64 0, .int .i64 2, .int .i64 0] rfl _ Tryz.underlying447 rfl (by kernel_rfl) ?_)
   generalize (wr.alloc (.cells #[.int .i64 2, .string ⟨#[97]⟩, .string ⟨#[49]⟩, .bool false, .string ⟨#[]⟩, .int .u64 0, .int .u64 0, .int .i64 0, .int .i64 0, .int .i64 2, .int .i64 0] 447)) = w2 at *
   have O2 := hq9 OX.out
   clear x0
   go_loop [37] (fun i => i = .int .i64 0) (fun _ => 0)
   case atStart => exact rfl
   case round =>
    subst hrel
    go_wp2
    go_roundw
    case rel => exact ⟨1, rfl, by omega, OX.out⟩
    case measure => simp only [intOf]; omega
  ·go_wp2
   go_ret
   exact ⟨rfl, ON.out⟩
theorem app_empty (A A' : Option Addr) (c c' : Nat) (W : World) : (Builtin.append_ #[216, 216] 216 #[.slice A 0 c, .slice A' 0 c']).run Tryz.prog W = .ok (.slice A 0 c) W := by
 obtain ⟨i, z, hi, hz, hs, hzs, hb⟩ := linkInfo
 cases A <;> cases A' <;> simp [Builtin.append_, run_underlying Tryz.underlying216, sizeOf, typeInfo, hi, Builtin.lenOf, Builtin.firstCells, storeCells, run_load0]
theorem empty_row {e : TypeId} {k : Nat} {w w' : World} {v : Value} (h : MadeR e k w [] v w') : ∃ A c, v = .slice A 0 c := by
 obtain ⟨A, c, hv, _, _⟩ := h.1.slice
 exact ⟨A, c, hv⟩
set_option maxHeartbeats 4000000 in
theorem arena_used (gd : Nat) (B : ArB) (S : ArS) (w : World) (h : ArAt w gd B S) (hT : S.T = []) (hL : S.L = []) (hE : S.E = []) :
  Calls Tryz.prog 393 #[.pointer (some ⟨B.a, 0, none⟩), .int .i64 2] w fun e w' => e = .returned (.bool false) ∧ Only [] w w' := by
 have H := hq9 h
 have HTA0 := fun W (o : Only [] w W) => tab_All B.t B.ts S.T W (h.keep0 o).tab (by rw [hT]; decide)
 have HLA0 := fun W (o : Only [] w W) => line_All B.l B.lv S.L W (h.keep0 o).line (by rw [hL]; decide)
 have HBA0 := fun W (o : Only [] w W) => bag_All B.b B.bv S.E W (h.keep0 o).bag (by rw [hE]; decide)
 rw [hT] at HTA0
 rw [hL] at HLA0
 rw [hE] at HBA0
 have HTA := hq9 (show ∀ W, Only [] w W → Calls Tryz.prog 111 #[.pointer (some ⟨B.t, 0, none⟩)] W (fun e w' => ∃ A c, e = .returned (.slice A 0 c) ∧ Only [] W w') from fun W o => (HTA0 W o).mono (by rintro e w' ⟨v, rfl, hv⟩; obtain ⟨A, c, rfl⟩ := empty_row hv; exact ⟨A, c, rfl, hv.2.2⟩))
 have HLA := hq9 (show ∀ W, Only [] w W → Calls Tryz.prog 114 #[.pointer (some ⟨B.l, 0, none⟩)] W (fun e w' => ∃ A c, e = .returned (.slice A 0 c) ∧ Only [] W w') from fun W o => (HLA0 W o).mono (by rintro e w' ⟨v, rfl, hv⟩; obtain ⟨A, c, rfl⟩ := empty_row hv; exact ⟨A, c, rfl, hv.2.2⟩))
 have HBA := hq9 (show ∀ W, Only [] w W → Calls Tryz.prog 127 #[.pointer (some ⟨B.b, 0, none⟩)] W (fun e w' => ∃ A c, e = .returned (.slice A 0 c) ∧ Only [] W w') from fun W o => (HBA0 W o).mono (by rintro e w' ⟨v, rfl, hv⟩; obtain ⟨A, c, rfl⟩ := empty_row hv; exact ⟨A, c, rfl, hv.2.2⟩))
 clear HTA0 HLA0 HBA0
 have HS := hq9 (show ∀ W, Only [] w W → W.cell? ⟨B.a, 5, none⟩ = some (.pointer (some ⟨B.t, 0, none⟩)) ∧ W.cell? ⟨B.a, 7, none⟩ = some (.pointer (some ⟨B.l, 0, none⟩)) from fun W o => ⟨(h.keep0 o).head.cell 5, (h.keep0 o).head.cell 7⟩)
 have OD := hq9 (Only.refl [] w).drew
 have s0 := HS.out _ OD.out
 clear h hT hL hE
 go_enter Tryz.func393, Tryz.ntmps393
 go_wp2_with fail
 go_region_held3 (fun w' => w'.cell? ⟨B.a, 5, none⟩ = some (.pointer (some ⟨B.t, 0, none⟩)) ∧ w'.cell? ⟨B.a, 7, none⟩ = some (.pointer (some ⟨B.l, 0, none⟩)))
  (first | (with_reducible assumption) | (with_reducible exact s0) | (with_reducible exact s1) | (with_reducible exact s2) | go_keep)
  (first
   | (go_at_call 111; (with_reducible refine (HTA.out w.drew OD.out).mono ?_); rintro r w1 ⟨A1, c1, rfl, o1⟩; have O1 := hq9 (OD.out.trans0 o1); have s1 := HS.out _ O1.out; clear o1)
   | (go_at_call 114; (with_reducible refine (HLA.out w1 O1.out).mono ?_); rintro r w2 ⟨A2, c2, rfl, o2⟩; have O2 := hq9 (O1.out.trans0 o2); have s2 := HS.out _ O2.out; have OF := hq9 O2.out; clear o2)
   | ((with_reducible show ite _ (Oper.wp _ (Oper.mk (some 19) _ _ _ _ _) _ _ _ _) _); rw [if_pos (by rfl)]; refine wp_append_run (.tmp 13) (.tmp 18) 216 rfl _ _ rfl rfl _ _ (app_empty _ _ _ _ _) ?_))
 clear s0 s1 s2
 have c4 : w2.cell? ⟨B.a, 4, none⟩ = some (.pointer (some ⟨B.b, 0, none⟩)) := (H.out.keep0 O2.out).head.cell 4
 go_wp2_with fail
 go_loop [21] (fun i => i = .int .i64 0) (fun _ => 0)
 case atStart => exact rfl
 case round =>
  subst hrel
  go_wp2_with fail
  refine (HBA.out w2 O2.out).mono ?_
  rintro r w3 ⟨A3, c3, rfl, o3⟩
  have O3 := hq9 (O2.out.trans0 o3)
  clear o3 c4
  go_wp2_with fail
  go_loop [36] (fun i => i = .int .i64 0) (fun _ => 0)
  case atStart => exact rfl
  case round =>
   subst hrel
   go_wp2
   go_ret
   exact ⟨rfl, O3.out⟩
theorem arena_Numbers (gd : Nat) (B : ArB) (S : ArS) (w : World) (h : ArAt w gd B S) :
  Calls Tryz.prog 394 #[.pointer (some ⟨B.a, 0, none⟩)] w fun e w' => e = .returned (.tuple #[.int .u64 S.id, .int .u64 S.ver]) ∧ Only [] w w' := by
 have c8 : w.cell? ⟨B.a, 8, none⟩ = some (.int .u64 S.id) := h.head.cell 8
 have c9 : w.cell? ⟨B.a, 9, none⟩ = some (.int .u64 S.ver) := h.head.cell 9
 have H8 := hq9 (fun (p : Later w) => uint64_Load B.a 8 S.id p.w (Later.cell p c8))
 have H9 := hq9 (fun (p : Later w) => uint64_Load B.a 9 S.ver p.w (Later.cell p c9))
 clear h c8 c9
 go_enter Tryz.func394, Tryz.ntmps394
 go_wp2_with fail
 refine wp_region_later w (by kernel_rfl) (by kernel_rfl) ?_
 repeat (go_big_quiet_step (fail))
 go_big_quiet_step (exact Calls.later_same (H8.out _))
 repeat (go_big_quiet_step (fail))
 go_big_quiet_step (exact Calls.later_same (H9.out _))
 repeat (go_big_quiet_step (fail))
 refine wpQuiet_nil ?_
 intro _ hw'
 obtain ⟨p, hw''⟩ := hw'
 subst hw''
 have opw := hq9 p.only
 go_wp2
 go_ret2
 exact ⟨rfl, opw.out⟩
set_option maxHeartbeats 4000000 in
theorem arena_found (gd : Nat) (B : ArB) (S : ArS) (w : World) (h : ArAt w gd B S) (hT : S.T = []) :
  Calls Tryz.prog 367 #[.pointer (some ⟨B.a, 0, none⟩), .agg chC.toArray] w fun e w' => e = .returned (.bool true) ∧ Only [] w w' := by
 have HB := hq9 (Blk.new w 447 chC.toArray)
 have OX := hq9 ((Only.refl [] w).alloc (.cells chC.toArray 447))
 have H := hq9 h
 have HMP := hq9 arena_mapped
 have HGT := hq9 (fun W (o : Only [] w W) => tab_Get B.t B.ts S.T [97] W (h.keep0 o).tab (by decide))
 rw [hT, show linkV (getL [] [97]) = .agg #[.string ⟨#[]⟩, .int .u64 0, .int .u64 0, .int .i64 0, .int .i64 0] from rfl, show hasKey [] [97] = false from rfl, show (⟨([97] : List UInt8).toArray⟩ : ByteArray) = ⟨#[97]⟩ from rfl] at HGT
 unfold chC at *
 clear h hT
 go_enter Tryz.func367, Tryz.ntmps367
 go_wp2_with ((with_reducible show wpList _ _ _ (Oper.mk (some 10) _ _ _ _ _ :: _) _ _); refine wpList_load_part rfl 447 (.tmp 3) rfl w.heap.size 0 rfl 447 _ HB.out [.int .i64 2, .string ⟨#[97]⟩, .string ⟨#[49]⟩, .bool false, .string ⟨#[]⟩, .int .u64 0, .int .u64 0, .int .i64 0, .int .i64 0, .int .i64 2, .int .i64 0] rfl _ Tryz.underlying447 rfl (by kernel_rfl) ?_)
 generalize (w.alloc (.cells #[.int .i64 2, .string ⟨#[97]⟩, .string ⟨#[49]⟩, .bool false, .string ⟨#[]⟩, .int .u64 0, .int .u64 0, .int .i64 0, .int .i64 0, .int .i64 2, .int .i64 0] 447)) = w1 at *
 refine (HMP.out w1).mono ?_
 rintro r w2 ⟨rfl, o2⟩
 have B2 := hq9 (HB.out.only o2 (by simp))
 have O2 := hq9 (OX.out.trans0 o2)
 clear o2 HB OX
 have HS := hq9 (show ∀ W, Only [] w2 W → W.cell? ⟨B.a, 5, none⟩ = some (.pointer (some ⟨B.t, 0, none⟩)) ∧ W.cell? ⟨w.heap.size, 1, none⟩ = some (.string ⟨#[97]⟩) from fun W o => ⟨(H.out.keep0 (O2.out.trans0 o)).head.cell 5, (B2.out.only o (by simp)).cell 1⟩)
 have OD := hq9 (Only.refl [] w2).drew
 have OZ := hq9 ((Only.refl [] w2).alloc (.cells #[.string ⟨#[]⟩, .int .u64 0, .int .u64 0, .int .i64 0, .int .i64 0] 70)).drew
 have s0 := HS.out _ OD.out
 have sA := HS.out _ OZ.out
 have BZ := hq9 (show Blk (w2.alloc (.cells #[.string ⟨#[]⟩, .int .u64 0, .int .u64 0, .int .i64 0, .int .i64 0] 70)).drew w2.heap.size 70 #[.string ⟨#[]⟩, .int .u64 0, .int .u64 0, .int .i64 0, .int .i64 0] from Blk.drew (Blk.new w2 70 #[.string ⟨#[]⟩, .int .u64 0, .int .u64 0, .int .i64 0, .int .i64 0]))
 have FB := hq9 (show ∀ W, Only [] w2 W → Only [] w2 (((((W.setCell ⟨w2.heap.size, 0, none⟩ (.string ⟨#[]⟩)).setCell ⟨w2.heap.size, 1, none⟩ (.int .u64 0)).setCell ⟨w2.heap.size, 2, none⟩ (.int .u64 0)).setCell ⟨w2.heap.size, 3, none⟩ (.int .i64 0)).setCell ⟨w2.heap.size, 4, none⟩ (.int .i64 0)) from fun W o => by
  have hs : ∀ {W' : World} (i : Nat) (v : Value), Only [] w2 W' → Only [] w2 (W'.setCell ⟨w2.heap.size, i, none⟩ v) := fun i v ho => ho.setCell (p := ⟨w2.heap.size, i, none⟩) (.inr (Nat.le_refl _)) v
  exact hs 4 (.int .i64 0) (hs 3 (.int .i64 0) (hs 2 (.int .u64 0) (hs 1 (.int .u64 0) (hs 0 (.string ⟨#[]⟩) o)))))
 go_wp2_with fail
 go_region_held3 (fun w' => w'.cell? ⟨B.a, 5, none⟩ = some (.pointer (some ⟨B.t, 0, none⟩)) ∧ w'.cell? ⟨w.heap.size, 1, none⟩ = some (.string ⟨#[97]⟩))
  (first | (with_reducible assumption) | (with_reducible exact s0) | (with_reducible exact sA) | (with_reducible exact s1) | (with_reducible exact (HS.out _ (O1.out.alloc _))) | (with_reducible exact (HS.out _ (FB.out w3 O1.out))) | go_keep)
  (first
   | (go_at_call 391; (with_reducible refine (HGT.out w2.drew (O2.out.trans0 OD.out)).mono ?_); rintro r w3 ⟨rfl, o1⟩; have O1 := hq9 (OD.out.trans0 o1); have s1 := HS.out w3 O1.out; clear o1)
   | (go_at_call 391; (with_reducible refine (HGT.out (w2.alloc (.cells #[.string ⟨#[]⟩, .int .u64 0, .int .u64 0, .int .i64 0, .int .i64 0] 70)).drew (O2.out.trans0 OZ.out)).mono ?_); rintro r w3 ⟨rfl, o1⟩; have O1 := hq9 (OZ.out.trans0 o1); have s1 := HS.out w3 O1.out; have bz := BZ.out.only o1 (by simp); have b0 := bz.cell 0; have b1 := bz.cell 1; have b2 := bz.cell 2; have b3 := bz.cell 3; have b4 := bz.cell 4; have z0 := bz.frozen 0; have z1 := bz.frozen 1; have z2 := bz.frozen 2; have z3 := bz.frozen 3; have z4 := bz.frozen 4; clear o1 bz))
 all_goals
  (first
   | ((with_reducible show Exit.then _ _ _ _ (World.alloc _ _)); have FX := hq9 (O2.out.trans0 (O1.out.alloc (.cells #[.string ⟨#[]⟩, .int .u64 0, .int .u64 0, .int .i64 0, .int .i64 0] 70))); have HS4 := HS.out _ (O1.out.alloc (.cells #[.string ⟨#[]⟩, .int .u64 0, .int .u64 0, .int .i64 0, .int .i64 0] 70)); have c3 : (w3.alloc (.cells #[.string ⟨#[]⟩, .int .u64 0, .int .u64 0, .int .i64 0, .int .i64 0] 70)).cell? ⟨w.heap.size, 3, none⟩ = some (.bool false) := (B2.out.only (O1.out.alloc _) (by simp)).cell 3; generalize (w3.alloc (.cells #[.string ⟨#[]⟩, .int .u64 0, .int .u64 0, .int .i64 0, .int .i64 0] 70)) = w4 at *)
   | ((with_reducible show Exit.then _ _ _ _ (World.setCell _ _ _)); have FX := hq9 (O2.out.trans0 (FB.out w3 O1.out)); have c3 : (((((w3.setCell ⟨w2.heap.size, 0, none⟩ (.string ⟨#[]⟩)).setCell ⟨w2.heap.size, 1, none⟩ (.int .u64 0)).setCell ⟨w2.heap.size, 2, none⟩ (.int .u64 0)).setCell ⟨w2.heap.size, 3, none⟩ (.int .i64 0)).setCell ⟨w2.heap.size, 4, none⟩ (.int .i64 0)).cell? ⟨w.heap.size, 3, none⟩ = some (.bool false) := (B2.out.only (FB.out w3 O1.out) (by simp)).cell 3; generalize (((((w3.setCell ⟨w2.heap.size, 0, none⟩ (.string ⟨#[]⟩)).setCell ⟨w2.heap.size, 1, none⟩ (.int .u64 0)).setCell ⟨w2.heap.size, 2, none⟩ (.int .u64 0)).setCell ⟨w2.heap.size, 3, none⟩ (.int .i64 0)).setCell ⟨w2.heap.size, 4, none⟩ (.int .i64 0)) = w4 at *))
  clear s0 sA s1 FB
  (try clear b0 b1 b2 b3 b4 z0 z1 z2 z3 z4)
  (try clear HS4)
  go_wp2
  go_ret
  exact ⟨rfl, FX.out⟩
end Go.Proofs.YtlggichakafkiaaGreat
namespace Go.Proofs.YtlggichakafkiaaGreat
open Go.BigFrame Go.RowKit Go.Proofs.FuMem Go.Proofs.FuTop Go.Proofs.FuNvm Go.Proofs.FuPool Go.Proofs.FuClk Go.Proofs.FuBlock Go.Proofs.FuClass Go.Proofs.FuCrc
set_option maxRecDepth 100000
theorem ofA_one : ofA (takeP (newPool 2) 0) 2 = (0, true) := by decide +kernel
set_option maxHeartbeats 4000000 in
theorem arena_held (gd : Nat) (B : ArB) (S : ArS) (lb : Nat) (w : World) (h : ArAt w gd B S) (hl : Blk w lb 447 chC.toArray) (hT : S.T = []) (hL : S.L = []) (hE : S.E = []) (hP : S.P = takeP (newPool 2) 0) (hok : Ok S.P) :
  Calls Tryz.prog 368 #[.pointer (some ⟨B.a, 0, none⟩), .slice (some ⟨lb, 0, none⟩) 1 1] w fun e w' => e = .returned (.bool true) ∧ Only [] w w' := by
 have H := hq9 hl
 have HA := hq9 h
 have SL := run_slice_to0 (P := Tryz.prog) Tryz.underlying448 (show Tryz.prog.info? 447 = some _ from rfl) (some ⟨lb, 0, none⟩) 1 1
 have HMP := hq9 arena_needs
 have HPO := hq9 (fun W (o : Only [] w W) => pool_Of B.p B.ps S.P 2 W (h.keep0 o).pool hok)
 rw [hP, ofA_one] at HPO
 have HUS := hq9 (fun W (o : Only [] w W) => arena_used gd B S W (h.keep0 o) hT hL hE)
 clear h hl hT hL hE hP hok
 unfold chC at *
 go_enter Tryz.func368, Tryz.ntmps368
 go_wp2_with fail
 go_loopw [13] (fun vi wr => ∃ i : Nat, vi = .int .i64 i ∧ i ≤ 1 ∧ Only [] w wr) (fun vi _ => 1 - (intOf vi).toNat)
 case atStart => exact ⟨0, rfl, by omega, Only.refl _ _⟩
 case round =>
  obtain ⟨i, rfl, hi, ho⟩ := hrel
  have ON := hq9 ho
  have HW := hq9 (H.out.only ho (by simp))
  clear ho
  rcases (show i = 0 ∨ i = 1 by omega) with rfl | rfl
  ·have OX := hq9 (ON.out.trans0 ((Only.refl [] wr).alloc (.cells #[.int .i64 2, .string ⟨#[97]⟩, .string ⟨#[49]⟩, .bool false, .string ⟨#[]⟩, .int .u64 0, .int .u64 0, .int .i64 0, .int .i64 0, .int .i64 2, .int .i64 0] 447)))
   have BX := hq9 (Blk.new wr 447 #[.int .i64 2, .string ⟨#[97]⟩, .string ⟨#[49]⟩, .bool false, .string ⟨#[]⟩, .int .u64 0, .int .u64 0, .int .i64 0, .int .i64 0, .int .i64 2, .int .i64 0])
   rw [show ((0 : Nat) : Int) = 0 from rfl]
   go_wp2_with (first | ((with_reducible show wpList _ _ _ (Oper.mk (some 17) _ _ _ _ _ :: _) _ _); refine wpList_load_part rfl 447 (.tmp 16) rfl lb 0 rfl 447 _ HW.out [.int .i64 2, .string ⟨#[97]⟩, .string ⟨#[49]⟩, .bool false, .string ⟨#[]⟩, .int .u64 0, .int .u64 0, .int .i64 0, .int .i64 0, .int .i64 2, .int .i64 0] rfl _ Tryz.underlying447 rfl (by kernel_rfl) ?_) | ((with_reducible show wpList _ _ _ (Oper.mk (some 18) _ _ _ _ _ :: _) _ _); refine wpList_load_part rfl 447 (.tmp 6) rfl wr.heap.size 0 rfl 447 _ BX.out [.int .i64 2, .string ⟨#[97]⟩, .string ⟨#[49]⟩, .bool false, .string ⟨#[]⟩, .int .u64 0, .int .u64 0, .int .i64 0, .int .i64 0, .int .i64 2, .int .i64 0] rfl _ Tryz.underlying447 rfl (by kernel_rfl) ?_))
   generalize (wr.alloc (.cells #[.int .i64 2, .string ⟨#[97]⟩, .string ⟨#[49]⟩, .bool false, .string ⟨#[]⟩, .int .u64 0, .int .u64 0, .int .i64 0, .int .i64 0, .int .i64 2, .int .i64 0] 447)) = w1 at *
   refine (HMP.out w1).mono ?_
   rintro r w2 ⟨rfl, o2⟩
   have B2 := hq9 (BX.out.only o2 (by simp))
   have O2 := hq9 (OX.out.trans0 o2)
   clear o2 BX OX
   have HS := hq9 (show ∀ W, Only [] w2 W → W.cell? ⟨B.a, 1, none⟩ = some (.pointer (some ⟨B.p, 0, none⟩)) ∧ W.cell? ⟨wr.heap.size, 9, none⟩ = some (.int .i64 2) from fun W o => ⟨(HA.out.keep0 (O2.out.trans0 o)).head.cell 1, (B2.out.only o (by simp)).cell 9⟩)
   have OD := hq9 (Only.refl [] w2).drew
   have s0 := HS.out _ OD.out
   go_wp2_with fail
   go_region_held3 (fun w' => w'.cell? ⟨B.a, 1, none⟩ = some (.pointer (some ⟨B.p, 0, none⟩)) ∧ w'.cell? ⟨wr.heap.size, 9, none⟩ = some (.int .i64 2))
    (first | (with_reducible assumption) | (with_reducible exact s0) | (with_reducible exact s1) | go_keep)
    (first
     | (go_at_call 392; (with_reducible refine (HPO.out w2.drew (O2.out.trans0 OD.out)).mono ?_); rintro r w3 ⟨rfl, o1⟩; have O1 := hq9 (OD.out.trans0 o1); have s1 := HS.out w3 O1.out; clear o1))
   have O3 := hq9 (O2.out.trans0 O1.out)
   have B3 := hq9 (B2.out.only O1.out (by simp))
   have x9 : w3.cell? ⟨wr.heap.size, 9, none⟩ = some (.int .i64 2) := B3.out.cell 9
   have x10 : w3.cell? ⟨wr.heap.size, 10, none⟩ = some (.int .i64 0) := B3.out.cell 10
   clear s0 s1
   go_wp2_with fail
   refine (HUS.out w3 O3.out).mono ?_
   rintro r w4 ⟨rfl, o4⟩
   have O4 := hq9 (O3.out.trans0 o4)
   clear o4 x9 x10
   go_wp2_with fail
   go_loop [49] (fun i => i = .int .i64 0) (fun _ => 0)
   case atStart => exact rfl
   case round =>
    subst hrel
    go_wp2
    go_roundw
    case rel => exact ⟨1, rfl, by omega, O4.out⟩
    case measure => simp only [intOf]; omega
  ·go_wp2
   go_ret
   exact ⟨rfl, ON.out⟩
def blC (id ver ep : Nat) : List Value := [.int .i64 0, .int .i64 1, .int .u64 id, .int .u64 ver, .int .u64 ep, .string ⟨#[97]⟩, .string ⟨#[49]⟩]
set_option maxHeartbeats 4000000 in
theorem arena_laid (id ver ep : Nat) (w : World) :
  Calls Tryz.prog 395 #[.agg chC.toArray, .int .u64 id, .int .u64 ver, .int .u64 ep] w fun e w' => e = .returned (.agg (blC id ver ep).toArray) ∧ Only [] w w' := by
 have B1 := hq9 (Blk.new w 447 chC.toArray)
 have O1 := hq9 ((Only.refl [] w).alloc (.cells chC.toArray 447))
 unfold chC blC at *
 have c0 := B1.out.cell 0
 have c10 := B1.out.cell 10
 go_enter Tryz.func395, Tryz.ntmps395
 go_wp2_with fail
 have O3 := hq9 ((O1.out.alloc (.cells #[.int .i64 0, .int .i64 0, .int .u64 0, .int .u64 0, .int .u64 0, .string ⟨#[]⟩, .string ⟨#[]⟩] 282)).alloc (.cells #[.int .i64 0, .int .i64 0, .int .u64 id, .int .u64 ver, .int .u64 ep, .string ⟨#[]⟩, .string ⟨#[]⟩] 282))
 have BA := hq9 ((B1.out.only ((Only.refl [] _).alloc (.cells #[.int .i64 0, .int .i64 0, .int .u64 0, .int .u64 0, .int .u64 0, .string ⟨#[]⟩, .string ⟨#[]⟩] 282)) (by simp)).only ((Only.refl [] _).alloc (.cells #[.int .i64 0, .int .i64 0, .int .u64 id, .int .u64 ver, .int .u64 ep, .string ⟨#[]⟩, .string ⟨#[]⟩] 282)) (by simp))
 have BB := hq9 ((Blk.new (w.alloc (.cells #[.int .i64 2, .string ⟨#[97]⟩, .string ⟨#[49]⟩, .bool false, .string ⟨#[]⟩, .int .u64 0, .int .u64 0, .int .i64 0, .int .i64 0, .int .i64 2, .int .i64 0] 447)) 282 #[.int .i64 0, .int .i64 0, .int .u64 0, .int .u64 0, .int .u64 0, .string ⟨#[]⟩, .string ⟨#[]⟩]).only ((Only.refl [] _).alloc (.cells #[.int .i64 0, .int .i64 0, .int .u64 id, .int .u64 ver, .int .u64 ep, .string ⟨#[]⟩, .string ⟨#[]⟩] 282)) (by simp))
 have BC := hq9 (Blk.new ((w.alloc (.cells #[.int .i64 2, .string ⟨#[97]⟩, .string ⟨#[49]⟩, .bool false, .string ⟨#[]⟩, .int .u64 0, .int .u64 0, .int .i64 0, .int .i64 0, .int .i64 2, .int .i64 0] 447)).alloc (.cells #[.int .i64 0, .int .i64 0, .int .u64 0, .int .u64 0, .int .u64 0, .string ⟨#[]⟩, .string ⟨#[]⟩] 282)) 282 #[.int .i64 0, .int .i64 0, .int .u64 id, .int .u64 ver, .int .u64 ep, .string ⟨#[]⟩, .string ⟨#[]⟩])
 rw [show ((w.alloc (.cells #[.int .i64 2, .string ⟨#[97]⟩, .string ⟨#[49]⟩, .bool false, .string ⟨#[]⟩, .int .u64 0, .int .u64 0, .int .i64 0, .int .i64 0, .int .i64 2, .int .i64 0] 447)).alloc (.cells #[.int .i64 0, .int .i64 0, .int .u64 0, .int .u64 0, .int .u64 0, .string ⟨#[]⟩, .string ⟨#[]⟩] 282)).heap.size = w.heap.size + 1 + 1 from by simp] at BC
 rw [show (w.alloc (.cells #[.int .i64 2, .string ⟨#[97]⟩, .string ⟨#[49]⟩, .bool false, .string ⟨#[]⟩, .int .u64 0, .int .u64 0, .int .i64 0, .int .i64 0, .int .i64 2, .int .i64 0] 447)).heap.size = w.heap.size + 1 from by simp] at BB
 have hne : w.heap.size < w.heap.size + 1 := by omega
 generalize hB : w.heap.size + 1 = hb at *
 generalize hC : hb + 1 = hc at *
 generalize hA : w.heap.size = ha at *
 clear B1 O1 c0 c10
 generalize ((World.alloc _ (.cells #[.int .i64 2, .string ⟨#[97]⟩, .string ⟨#[49]⟩, .bool false, .string ⟨#[]⟩, .int .u64 0, .int .u64 0, .int .i64 0, .int .i64 0, .int .i64 2, .int .i64 0] 447)).alloc (.cells #[.int .i64 0, .int .i64 0, .int .u64 0, .int .u64 0, .int .u64 0, .string ⟨#[]⟩, .string ⟨#[]⟩] 282)).alloc (.cells #[.int .i64 0, .int .i64 0, .int .u64 id, .int .u64 ver, .int .u64 ep, .string ⟨#[]⟩, .string ⟨#[]⟩] 282) = w3 at *
 have HS := hq9 (show ∀ W, Only [hc] w3 W → W.cell? ⟨ha, 1, none⟩ = some (.string ⟨#[97]⟩) ∧ W.cell? ⟨ha, 2, none⟩ = some (.string ⟨#[49]⟩) from fun W o => ⟨(BA.out.only o (by simp; omega)).cell 1, (BA.out.only o (by simp; omega)).cell 2⟩)
 have BD := BC
 have OD := hq9 (Only.refl [hc] w3)
 have s0 := HS.out _ OD.out.drew
 have BE := hq9 (BD.out.set 1 (.int .i64 1))
 have OE := hq9 (OD.out.setCell (p := ⟨hc, 1, none⟩) (.inl (by simp)) (.int .i64 1))
 have s1 := HS.out _ OE.out.drew
 have BF := hq9 (BE.out.set 5 (.string ⟨#[97]⟩))
 have OF := hq9 (OE.out.setCell (p := ⟨hc, 5, none⟩) (.inl (by simp)) (.string ⟨#[97]⟩))
 have s2 := HS.out _ OF.out.drew
 have BG := hq9 (BF.out.set 6 (.string ⟨#[49]⟩))
 have OG := hq9 (OF.out.setCell (p := ⟨hc, 6, none⟩) (.inl (by simp)) (.string ⟨#[49]⟩))
 have s3 := HS.out _ OG.out.drew
 have d1 : w3.drew.cell? ⟨hc, 1, none⟩ = some (.int .i64 0) := BD.out.drew.cell 1
 have d5 : (w3.setCell ⟨hc, 1, none⟩ (.int .i64 1)).drew.cell? ⟨hc, 5, none⟩ = some (.string ⟨#[]⟩) := BE.out.drew.cell 5
 have d6 : ((w3.setCell ⟨hc, 1, none⟩ (.int .i64 1)).setCell ⟨hc, 5, none⟩ (.string ⟨#[97]⟩)).drew.cell? ⟨hc, 6, none⟩ = some (.string ⟨#[]⟩) := BF.out.drew.cell 6
 have z1 := BD.out.drew.frozen 1
 have z5 := BE.out.drew.frozen 5
 have z6 := BF.out.drew.frozen 6
 go_region_held3 (fun w' => w'.cell? ⟨ha, 1, none⟩ = some (.string ⟨#[97]⟩) ∧ w'.cell? ⟨ha, 2, none⟩ = some (.string ⟨#[49]⟩))
  (first | (with_reducible assumption) | (with_reducible exact s0) | (with_reducible exact s1) | (with_reducible exact s2) | (with_reducible exact s3) | go_keep)
  (first | fail)
 clear s0 s1 s2 s3 d1 d5 d6 z1 z5 z6 BF BE BD OD OE OF
 have BH := hq9 (show Blk _ hc 282 (blC id ver ep).toArray from BG.out.drew)
 have OH := hq9 OG.out.drew
 have BI := hq9 (BB.out.only OH.out (by simp; omega))
 have O4 := hq9 (O3.out.trans OH.out (fun b hb => .inr (by simp at hb; omega)))
 clear BG OG BC BB BA HS OH O3
 generalize (World.drew _) = w4 at *
 have OJ := hq9 (show ∀ v0 v1 v2 v3 v4 v5 v6, Only [] w (((((((w4.setCell ⟨hb, 0, none⟩ v0).setCell ⟨hb, 1, none⟩ v1).setCell ⟨hb, 2, none⟩ v2).setCell ⟨hb, 3, none⟩ v3).setCell ⟨hb, 4, none⟩ v4).setCell ⟨hb, 5, none⟩ v5).setCell ⟨hb, 6, none⟩ v6) from fun v0 v1 v2 v3 v4 v5 v6 => by
  have hs : ∀ {W' : World} (i : Nat) (v : Value), Only [] w W' → Only [] w (W'.setCell ⟨hb, i, none⟩ v) := fun i v ho => ho.setCell (p := ⟨hb, i, none⟩) (.inr (by simp; omega)) v
  exact hs 6 v6 (hs 5 v5 (hs 4 v4 (hs 3 v3 (hs 2 v2 (hs 1 v1 (hs 0 v0 O4.out)))))))
 have BK := hq9 (show Blk _ hb 282 (blC id ver ep).toArray from ((((((BI.out.set 0 (.int .i64 0)).set 1 (.int .i64 1)).set 2 (.int .u64 id)).set 3 (.int .u64 ver)).set 4 (.int .u64 ep)).set 5 (.string ⟨#[97]⟩)).set 6 (.string ⟨#[49]⟩))
 unfold blC at BH
 have h0 := BH.out.cell 0
 have h1 := BH.out.cell 1
 have h2 := BH.out.cell 2
 have h3 := BH.out.cell 3
 have h4 := BH.out.cell 4
 have h5 := BH.out.cell 5
 have h6 := BH.out.cell 6
 have b0 := BI.out.cell 0
 have b1 := BI.out.cell 1
 have b2 := BI.out.cell 2
 have b3 := BI.out.cell 3
 have b4 := BI.out.cell 4
 have b5 := BI.out.cell 5
 have b6 := BI.out.cell 6
 have z0 := BI.out.frozen 0
 have z1 := BI.out.frozen 1
 have z2 := BI.out.frozen 2
 have z3 := BI.out.frozen 3
 have z4 := BI.out.frozen 4
 have z5 := BI.out.frozen 5
 have z6 := BI.out.frozen 6
 go_wp2
 exact bodyPost_ret (results_cell_row rfl _ _ hb 282 _ _ _ rfl BK.out Tryz.underlying282 rfl (by kernel_rfl)) rfl ⟨rfl, OJ.out _ _ _ _ _ _ _⟩
end Go.Proofs.YtlggichakafkiaaGreat
namespace Go.Proofs.YtlggichakafkiaaGreat
open Go.BigFrame Go.RowKit Go.Proofs.FuMem Go.Proofs.FuTop Go.Proofs.FuNvm Go.Proofs.FuPool Go.Proofs.FuClk Go.Proofs.FuBlock Go.Proofs.FuClass Go.Proofs.FuCrc
set_option maxRecDepth 100000
theorem may_one : may (mkB 0 1 1 1 1 ⟨#[97]⟩ ⟨#[49]⟩) = true := by decide +kernel
theorem arena_May (w : World) : Calls Tryz.prog 233 #[.agg (blC 1 1 1).toArray] w fun e w' => e = .returned (.bool true) ∧ Only [] w w' := by
 have h := block_May 0 1 1 1 1 ⟨#[97]⟩ ⟨#[49]⟩ w (by decide) (by decide) (by decide) (by decide) (by decide) (by decide)
 rw [may_one] at h
 exact h
set_option maxHeartbeats 4000000 in
theorem arena_fits (gd : Nat) (B : ArB) (S : ArS) (lb : Nat) (w : World) (h : ArAt w gd B S) (hl : Blk w lb 447 chC.toArray) (hid : S.id = 0) (hver : S.ver = 0) :
  Calls Tryz.prog 369 #[.pointer (some ⟨B.a, 0, none⟩), .slice (some ⟨lb, 0, none⟩) 1 1, .int .u64 1] w fun e w' => e = .returned (.int .i64 0) ∧ Only [] w w' := by
 have H := hq9 hl
 have HN := hq9 (arena_Numbers gd B S w h)
 rw [hid, hver] at HN
 have HLD := hq9 (arena_laid 1 1 1)
 have HMY := hq9 arena_May
 have HMP := hq9 arena_needs
 clear h hl hid hver
 unfold chC blC at *
 go_enter Tryz.func369, Tryz.ntmps369
 go_wp2_with fail
 refine HN.out.mono ?_
 rintro r w1 ⟨rfl, o1⟩
 have O1 := hq9 o1
 clear o1 HN
 go_wp2_with fail
 go_loopw [7, 8, 9, 20] (fun v7 v8 v9 vi wr => ∃ i : Nat, vi = .int .i64 i ∧ i ≤ 1 ∧ v7 = .int .u64 i ∧ v8 = .int .u64 i ∧ v9 = .bool false ∧ Only [] w wr) (fun _ _ _ vi _ => 1 - (intOf vi).toNat)
 case atStart => exact ⟨0, rfl, by omega, rfl, rfl, rfl, O1.out⟩
 case round =>
  obtain ⟨i, rfl, hi, rfl, rfl, rfl, ho⟩ := hrel
  have ON := hq9 ho
  have HW := hq9 (H.out.only ho (by simp))
  clear ho
  rcases (show i = 0 ∨ i = 1 by omega) with rfl | rfl
  ·have OX := hq9 (ON.out.trans0 ((Only.refl [] wr).alloc (.cells #[.int .i64 2, .string ⟨#[97]⟩, .string ⟨#[49]⟩, .bool false, .string ⟨#[]⟩, .int .u64 0, .int .u64 0, .int .i64 0, .int .i64 0, .int .i64 2, .int .i64 0] 447)))
   have BX := hq9 (Blk.new wr 447 #[.int .i64 2, .string ⟨#[97]⟩, .string ⟨#[49]⟩, .bool false, .string ⟨#[]⟩, .int .u64 0, .int .u64 0, .int .i64 0, .int .i64 0, .int .i64 2, .int .i64 0])
   rw [show ((0 : Nat) : Int) = 0 from rfl]
   go_wp2_with (first | ((with_reducible show wpList _ _ _ (Oper.mk (some 23) _ _ _ _ _ :: _) _ _); refine wpList_load_part rfl 447 (.tmp 22) rfl lb 0 rfl 447 _ HW.out [.int .i64 2, .string ⟨#[97]⟩, .string ⟨#[49]⟩, .bool false, .string ⟨#[]⟩, .int .u64 0, .int .u64 0, .int .i64 0, .int .i64 0, .int .i64 2, .int .i64 0] rfl _ Tryz.underlying447 rfl (by kernel_rfl) ?_) | ((with_reducible show wpList _ _ _ (Oper.mk (some 24) _ _ _ _ _ :: _) _ _); refine wpList_load_part rfl 447 (.tmp 11) rfl wr.heap.size 0 rfl 447 _ BX.out [.int .i64 2, .string ⟨#[97]⟩, .string ⟨#[49]⟩, .bool false, .string ⟨#[]⟩, .int .u64 0, .int .u64 0, .int .i64 0, .int .i64 0, .int .i64 2, .int .i64 0] rfl _ Tryz.underlying447 rfl (by kernel_rfl) ?_))
   generalize (wr.alloc (.cells #[.int .i64 2, .string ⟨#[97]⟩, .string ⟨#[49]⟩, .bool false, .string ⟨#[]⟩, .int .u64 0, .int .u64 0, .int .i64 0, .int .i64 0, .int .i64 2, .int .i64 0] 447)) = w2 at *
   refine (HMP.out w2).mono ?_
   rintro r w3 ⟨rfl, o3⟩
   have B3 := hq9 (BX.out.only o3 (by simp))
   have O3 := hq9 (OX.out.trans0 o3)
   clear o3 BX OX
   go_wp2_with ((with_reducible show wpList _ _ _ (Oper.mk (some 27) _ _ _ _ _ :: _) _ _); refine wpList_load_part rfl 447 (.tmp 11) rfl wr.heap.size 0 rfl 447 _ B3.out [.int .i64 2, .string ⟨#[97]⟩, .string ⟨#[49]⟩, .bool false, .string ⟨#[]⟩, .int .u64 0, .int .u64 0, .int .i64 0, .int .i64 0, .int .i64 2, .int .i64 0] rfl _ Tryz.underlying447 rfl (by kernel_rfl) ?_)
   refine (HLD.out w3).mono ?_
   rintro r w4 ⟨rfl, o4⟩
   have B5 := hq9 ((B3.out.only o4 (by simp)).only ((Only.refl [] w4).alloc (.cells #[.int .i64 0, .int .i64 1, .int .u64 1, .int .u64 1, .int .u64 1, .string ⟨#[97]⟩, .string ⟨#[49]⟩] 282)) (by simp))
   have O5 := hq9 ((O3.out.trans0 o4).alloc (.cells #[.int .i64 0, .int .i64 1, .int .u64 1, .int .u64 1, .int .u64 1, .string ⟨#[97]⟩, .string ⟨#[49]⟩] 282))
   have BL := hq9 (Blk.new w4 282 #[.int .i64 0, .int .i64 1, .int .u64 1, .int .u64 1, .int .u64 1, .string ⟨#[97]⟩, .string ⟨#[49]⟩])
   clear o4 B3 O3
   have l0 := BL.out.cell 0
   have l1 := BL.out.cell 1
   have l2 := BL.out.cell 2
   have l3 := BL.out.cell 3
   have l4 := BL.out.cell 4
   have l5 := BL.out.cell 5
   have l6 := BL.out.cell 6
   go_wp2_with fail
   generalize (w4.alloc (.cells #[.int .i64 0, .int .i64 1, .int .u64 1, .int .u64 1, .int .u64 1, .string ⟨#[97]⟩, .string ⟨#[49]⟩] 282)) = w5 at *
   clear l0 l1 l2 l3 l4 l5 l6
   refine (HMY.out w5).mono ?_
   rintro r w6 ⟨rfl, o6⟩
   have BM := hq9 (BL.out.only o6 (by simp))
   have B6 := hq9 (B5.out.only o6 (by simp))
   have O6 := hq9 (O5.out.trans0 o6)
   clear o6 BL B5 O5
   have m0 : w6.cell? ⟨w4.heap.size, 0, none⟩ = some (.int .i64 0) := BM.out.cell 0
   have x10 : w6.cell? ⟨wr.heap.size, 10, none⟩ = some (.int .i64 0) := B6.out.cell 10
   have x0 : w6.cell? ⟨wr.heap.size, 0, none⟩ = some (.int .i64 2) := B6.out.cell 0
   have x3 : w6.cell? ⟨wr.heap.size, 3, none⟩ = some (.bool false) := B6.out.cell 3
   go_wp2
   go_roundw
   case rel => exact ⟨1, rfl, by omega, rfl, rfl, rfl, O6.out⟩
   case measure => simp only [intOf]; omega
  ·go_wp2
   go_ret
   exact ⟨rfl, ON.out⟩
end Go.Proofs.YtlggichakafkiaaGreat
namespace Go.Proofs.YtlggichakafkiaaGreat
open Go.BigFrame Go.RowKit Go.Proofs.FuMem Go.Proofs.FuTop Go.Proofs.FuNvm Go.Proofs.FuPool Go.Proofs.FuClk
set_option maxRecDepth 100000
section
variable {w w' w0 : World} {gd cb cap : Nat} {B B0 : ArB} {S : ArS} {D : Dev} {X : List (Nat × TypeId × List Value)}
theorem ArAt.setEff (h : ArAt w gd B S) {w1 : World} {v : Value} {F : List Eff} (o1 : Only B.ev.ownBlock.toList w w1) (hr : RowS 182 7 w1 v (F.map effC)) (hn : v.ownBlock = B.ev.ownBlock ∨ v.ownBlock = some w.heap.size) :
  ArAt (w1.setCell ⟨B.a, 10, none⟩ v) gd { B with ev := v } { S with F := F } := by
 have W1 := Whole.upd2 h (arXs_fit _ _ _) 9 (F := B.ev.ownBlock.toList) (F' := v.ownBlock.toList) (Y := rowC 182 7 v (F.map effC)) rfl o1 (fun b hb => .inl hb) ⟨rfl, hr⟩ (by cases v.ownBlock <;> simp) (fun b hb => by
  rcases hn with h | h
  ·exact .inl (by rw [← h]; exact hb)
  ·rw [h] at hb
   simp at hb
   exact .inr (by omega))
 have hh : Blk w1 B.a 198 (arHead B S) := W1.1.2.2.2.2.2.2.2.2.1.2
 have os := (Only.refl [B.a] w1).setCell (p := ⟨B.a, 10, none⟩) (.inl (by simp)) v
 have W2 := Whole.upd2 W1 (fun Y hY => by
  rcases List.mem_or_eq_of_mem_set hY with h | h
  ·exact arXs_fit _ _ _ _ h
  ·rw [h]; exact rowC_fit _ _ _ _) 8 (F := [B.a]) (F' := [B.a]) (Y := blkC B.a 198 (arHead { B with ev := v } { S with F := F })) rfl os (fun b hb => .inl hb) ⟨rfl, hh.set 10 v⟩ (by simp) (fun b hb => .inl hb)
 exact W2
structure ChIn (w0 : World) (gd cb cap : Nat) (B0 : ArB) (w : World) (B : ArB) (S : ArS) (D : Dev) (X : List (Nat × TypeId × List Value)) : Prop where
 ar : ArAt w gd B S
 dev : DevAt w gd cb cap D
 x : ∀ x ∈ X, Blk w x.1 x.2.1 x.2.2.toArray ∧ w0.heap.size ≤ x.1 ∧ x.1 ∉ (arFs B).flatten
 only : Only (turnT gd cb B0) w0 w
 own : ∀ b ∈ (arFs B).flatten, b ∈ (arFs B0).flatten ∨ w0.heap.size ≤ b
 gd0 : gd ∉ (arFs B).flatten
 cb0 : cb ∉ (arFs B).flatten
 lo : gd < w0.heap.size ∧ cb < w0.heap.size
theorem ChIn.start (h : ArAt w gd B S) (hd : DevAt w gd cb cap D) (hg : gd ∉ (arFs B).flatten) (hc : cb ∉ (arFs B).flatten) (hl : gd < w.heap.size ∧ cb < w.heap.size) : ChIn w gd cb cap B w B S D [] :=
 ⟨h, hd, by simp, Only.refl _ _, fun b hb => .inl hb, hg, hc, hl⟩
theorem ChIn.keep (h : ChIn w0 gd cb cap B0 w B S D X) (o : Only [] w w') : ChIn w0 gd cb cap B0 w' B S D X :=
 ⟨h.ar.keep0 o, h.dev.only0 o, fun x hx => ⟨(h.x x hx).1.only o (by simp), (h.x x hx).2⟩, h.only.trans o (by simp), h.own, h.gd0, h.cb0, h.lo⟩
theorem ChIn.new (h : ChIn w0 gd cb cap B0 w B S D X) (o : Only [] w w') {n : Nat} {t : TypeId} {c : List Value} (hb : Blk w' n t c.toArray) (hn : w.heap.size ≤ n) : ChIn w0 gd cb cap B0 w' B S D (X ++ [(n, t, c)]) := by
 have k := h.keep o
 refine ⟨k.ar, k.dev, fun x hx => ?_, k.only, k.own, k.gd0, k.cb0, k.lo⟩
 rcases List.mem_append.1 hx with hx | hx
 ·exact k.x x hx
 ·rw [List.mem_singleton.1 hx]
  exact ⟨hb, Nat.le_trans h.only.size hn, fun hm => by have := h.ar.lt n hm; omega⟩
theorem ChIn.dev' (h : ChIn w0 gd cb cap B0 w B S D X) {D' : Dev} (o : Only [gd, cb] w w') (hd : DevAt w' gd cb cap D') : ChIn w0 gd cb cap B0 w' B S D' X := by
 refine ⟨h.ar.keep o (fun b hb hm => ?_), hd, fun x hx => ⟨(h.x x hx).1.only o (fun hm => ?_), (h.x x hx).2⟩, h.only.trans o (fun b hb => .inl ?_), h.own, h.gd0, h.cb0, h.lo⟩
 ·simp at hm
  rcases hm with rfl | rfl
  ·exact h.gd0 hb
  ·exact h.cb0 hb
 ·have := (h.x x hx).2.1
  have := h.lo
  simp at hm
  omega
 ·simp at hb
  unfold turnT
  rcases hb with rfl | rfl <;> simp
theorem ChIn.ar' (h : ChIn w0 gd cb cap B0 w B S D X) {B' : ArB} {S' : ArS} {T : List Nat} (o : Only T w w') (hT : ∀ b ∈ T, b ∈ (arFs B).flatten) (ha : ArAt w' gd B' S') (hn : ∀ b ∈ (arFs B').flatten, b ∈ (arFs B).flatten ∨ w.heap.size ≤ b) : ChIn w0 gd cb cap B0 w' B' S' D X := by
 have hs := h.only.size
 have hg : gd < w.heap.size := Nat.lt_of_lt_of_le h.lo.1 hs
 have hc : cb < w.heap.size := Nat.lt_of_lt_of_le h.lo.2 hs
 refine ⟨ha, h.dev.only o (fun hm => h.gd0 (hT _ hm)) (fun hm => h.cb0 (hT _ hm)), fun x hx => ⟨(h.x x hx).1.only o (fun hm => (h.x x hx).2.2 (hT _ hm)), (h.x x hx).2.1, fun hm => ?_⟩, h.only.trans o (fun b hb => ?_), fun b hb => ?_, fun hm => ?_, fun hm => ?_, h.lo⟩
 ·rcases hn _ hm with h1 | h1
  ·exact (h.x x hx).2.2 h1
  ·have := (h.x x hx).1.lt; omega
 ·rcases h.own b (hT b hb) with h1 | h1
  ·exact .inl (by unfold turnT; simp [h1])
  ·exact .inr h1
 ·rcases hn b hb with h1 | h1
  ·exact h.own b h1
  ·exact .inr (by omega)
 ·rcases hn _ hm with h1 | h1
  ·exact h.gd0 h1
  ·omega
 ·rcases hn _ hm with h1 | h1
  ·exact h.cb0 h1
  ·omega
theorem ChIn.get (h : ChIn w0 gd cb cap B0 w B S D X) {i : Nat} {n : Nat} {t : TypeId} {c : List Value} (hx : X[i]? = some (n, t, c)) : Blk w n t c.toArray := (h.x _ (List.mem_of_getElem? hx)).1
theorem ChIn.drop (h : ChIn w0 gd cb cap B0 w B S D X) : ChIn w0 gd cb cap B0 w B S D [] := ⟨h.ar, h.dev, by simp, h.only, h.own, h.gd0, h.cb0, h.lo⟩
theorem ChIn.head (h : ChIn w0 gd cb cap B0 w B S D X) (k : Nat) (v : Value) {i j : Nat} (hk : (arHead B S).setIfInBounds k v = arHead B { S with id := i, ver := j }) : ChIn w0 gd cb cap B0 (w.setCell ⟨B.a, k, none⟩ v) B { S with id := i, ver := j } D X := by
 have os := (Only.refl [B.a] w).setCell (p := ⟨B.a, k, none⟩) (.inl (by simp)) v
 exact h.ar' os (fun b hb => by rw [List.mem_singleton.1 hb]; exact h.ar.mem.1) (h.ar.setHead os (by rw [← hk]; exact h.ar.head.set k v)) (fun b hb => .inl hb)
theorem ChIn.tab (h : ChIn w0 gd cb cap B0 w B S D X) {T : List Link} (o : Only (B.t :: B.ts) w w') (hp : TabAt w' B.t B.ts T) : ChIn w0 gd cb cap B0 w' B { S with T := T } D X :=
 h.ar' o (fun b hb => by
  have : b = B.t ∨ b ∈ B.ts := List.mem_cons.1 hb
  unfold arFs
  rcases this with rfl | h1
  ·simp
  ·simp [h1]) (h.ar.setTab o hp) (fun b hb => .inl hb)
theorem ChIn.ord (h : ChIn w0 gd cb cap B0 w B S D X) {vs : List Value} {Ls : List (List Link)} (o : Only (B.o :: ownsOf B.ov) w w') (hp : LevAt w' B.o vs Ls) (hn : ∀ c ∈ ownsOf vs, c ∈ ownsOf B.ov ∨ w.heap.size ≤ c) : ChIn w0 gd cb cap B0 w' { B with ov := vs } { S with Ls := Ls } D X :=
 h.ar' o (fun b hb => by
  have : b = B.o ∨ b ∈ ownsOf B.ov := List.mem_cons.1 hb
  unfold arFs
  rcases this with rfl | h1
  ·simp
  ·simp [h1]) (h.ar.setOrd o hp hn) (fun b hb => by
  by_cases h2 : b ∈ ownsOf vs
  ·rcases hn b h2 with h3 | h3
   ·exact .inl (by unfold arFs; simp [h3])
   ·exact .inr h3
  ·refine .inl ?_
   unfold arFs at hb ⊢
   simp only [List.flatten_cons, List.flatten_nil, List.mem_append, List.mem_cons, List.not_mem_nil, or_false, Option.mem_toList, Option.mem_def] at hb ⊢
   simp only [h2, or_false] at hb
   rcases hb with h | h | h | h | h | h | h | h | h | h <;> simp [h])
theorem ChIn.eff (h : ChIn w0 gd cb cap B0 w B S D X) {w1 : World} {v : Value} {F : List Eff} (o1 : Only B.ev.ownBlock.toList w w1) (hr : RowS 182 7 w1 v (F.map effC)) (hn : v.ownBlock = B.ev.ownBlock ∨ v.ownBlock = some w.heap.size) :
  ChIn w0 gd cb cap B0 (w1.setCell ⟨B.a, 10, none⟩ v) { B with ev := v } { S with F := F } D X := by
 have hm : ∀ b ∈ B.ev.ownBlock.toList, b ∈ (arFs B).flatten := fun b hb => by unfold arFs; simp [List.mem_flatten]; simp at hb; simp [hb]
 have o : Only (B.a :: B.ev.ownBlock.toList) w (w1.setCell ⟨B.a, 10, none⟩ v) := ((o1.mono (T := B.a :: B.ev.ownBlock.toList) (fun b hb => List.mem_cons_of_mem _ hb)).trans ((Only.refl [B.a] w1).setCell (p := ⟨B.a, 10, none⟩) (.inl (by simp)) v) (fun b hb => .inl (by simp at hb; simp [hb])))
 refine h.ar' o (fun b hb => ?_) (h.ar.setEff o1 hr hn) (fun b hb => ?_)
 ·rcases List.mem_cons.1 hb with rfl | h1
  ·exact h.ar.mem.1
  ·exact hm b h1
 ·by_cases h2 : b ∈ v.ownBlock.toList
  ·rcases hn with h3 | h3
   ·exact .inl (hm b (by rw [← h3]; exact h2))
   ·rw [h3] at h2
    simp at h2
    exact .inr (by omega)
  ·refine .inl ?_
   unfold arFs at hb ⊢
   simp only [List.flatten_cons, List.flatten_nil, List.mem_append, List.mem_cons, List.not_mem_nil, or_false, Option.mem_toList, Option.mem_def] at hb ⊢
   simp only [Option.mem_toList, Option.mem_def] at h2
   simp only [h2, or_false] at hb
   rcases hb with h | h | h | h | h | h | h | h | h <;> simp [h]
theorem ChIn.ev1 (h : ChIn w0 gd cb cap B0 w B S D X) {w1 : World} {v : Value} {F : List Eff} (o1 : Only B.ev.ownBlock.toList w w1) (hr : RowS 182 7 w1 v (F.map effC)) (hn : v.ownBlock = B.ev.ownBlock ∨ v.ownBlock = some w.heap.size) :
  Blk w1 B.a 198 (arHead B S) ∧ ∀ x ∈ X, Blk w1 x.1 x.2.1 x.2.2.toArray := by
 have W1 := Whole.upd2 h.ar (arXs_fit _ _ _) 9 (F := B.ev.ownBlock.toList) (F' := v.ownBlock.toList) (Y := rowC 182 7 v (F.map effC)) rfl o1 (fun b hb => .inl hb) ⟨rfl, hr⟩ (by cases v.ownBlock <;> simp) (fun b hb => by
  rcases hn with h | h
  ·exact .inl (by rw [← h]; exact hb)
  ·rw [h] at hb
   simp at hb
   exact .inr (by omega))
 exact ⟨W1.1.2.2.2.2.2.2.2.2.1.2, fun x hx => (h.x x hx).1.only o1 (fun hm => (h.x x hx).2.2 (by unfold arFs; simp at hm; simp [hm]))⟩
end
end Go.Proofs.YtlggichakafkiaaGreat