/- Which threads of a world have a call. -/
import Derived.IntWalk
import Derived.Test.YtlggichakafkiaaGreatRows
import Derived.Test.YtlggichakafkiaaGreatChecked
import Derived.JoinedOf
import Derived.KernelRfl
import Derived.Test.YtlggichakafkiaaGreatGTopHostile1
import Derived.Test.YtlggichakafkiaaGreatGTopHostile2
import Derived.Test.YtlggichakafkiaaGreatGTopHostile3
import Derived.Test.YtlggichakafkiaaGreatGTopHostile4
import Derived.Test.YtlggichakafkiaaGreatGTopHostile5
import Derived.Test.YtlggichakafkiaaGreatGTopHostile6
import Derived.Test.YtlggichakafkiaaGreatGTopHostile7
import Derived.Test.YtlggichakafkiaaGreatGTopHostile8
import Derived.Test.YtlggichakafkiaaGreatGTopHostile9
import Derived.Test.YtlggichakafkiaaGreatGTopHostile10
import Derived.Test.YtlggichakafkiaaGreatGTopHostile11
import Derived.Test.YtlggichakafkiaaGreatGTopHostile12
import Derived.Test.YtlggichakafkiaaGreatGTopHostile13
set_option linter.unusedSimpArgs false
set_option linter.unusedVariables false
namespace Go.Proofs.YtlggichakafkiaaGreat
open Go.BigFrame Go.RowKit Go.Proofs.FuMem
set_option maxRecDepth 100000
theorem run_index_agg {P : Program} (t e : TypeId) (n sz : Nat) (i : TypeInfo) (cs : Array Value) (k : Nat) (w : World) (h : P.underlying t = some (.array n e)) (he : ∃ fs, P.underlying e = some (.struct fs)) (hi : P.info? e = some i) (hsz : i.size = sz) (hk : k < n) :
  (Instr.index t (.agg cs) (.int .i64 k)).run P w = .ok (.agg (cs.extract (k * sz) (k * sz + sz))) w := by
 subst hsz
 obtain ⟨fs, he⟩ := he
 have h0 : (0 : Int) ≤ (k : Int) ∧ (k : Int) < (n : Int) := by omega
 simp [Instr.index, asIntOf, run_underlying h, part, isAgg, run_underlying he, sizeOf, typeInfo, hi, Result.andThen, h0]
 omega
theorem thInfo : ∃ i cz, Tryz.prog.info? 126 = some i ∧ i.zero = some cz ∧ i.size = 30 ∧ cz.cells.size = 30 := ⟨_, _, rfl, rfl, rfl, rfl⟩
theorem thFs : ∃ fs, Tryz.prog.underlying 126 = some (.struct fs) := ⟨_, rfl⟩
def pendTo (bs : List Bool) (n : Nat) : List Nat := (List.range n).filter fun i => bs.getD i false
theorem pend_yes {bs : List Bool} {n : Nat} (h : bs.getD n false = true) : pendTo bs (n + 1) = pendTo bs n ++ [n] := by
 unfold pendTo
 rw [List.range_succ, List.filter_append]
 simp only [List.filter_cons, List.filter_nil, h, if_true]
theorem pend_no {bs : List Bool} {n : Nat} (h : bs.getD n false = false) : pendTo bs (n + 1) = pendTo bs n := by
 unfold pendTo
 rw [List.range_succ, List.filter_append]
 simp only [List.filter_cons, List.filter_nil, h, if_false, List.append_nil, Bool.false_eq_true]
theorem pend_len (bs : List Bool) (n : Nat) : (pendTo bs n).length ≤ n := by
 have := List.length_filter_le (fun i => bs.getD i false) (List.range n)
 simpa [pendTo] using this
theorem part_of {T : List (List Value)} {k : Nat} {t : List Value} (hl : ∀ t ∈ T, t.length = 30) (hk : T[k]? = some t) : (T.flatten.toArray).extract (k * 30) (k * 30 + 30) = t.toArray := by
 have e : ((T.flatten.drop (k * 30)).take 30) = t := by
  induction T generalizing k with
  | nil => simp at hk
  | cons a T ih =>
    have ha : a.length = 30 := hl a (by simp)
    cases k with
    | zero =>
      simp at hk
      subst hk
      rw [List.flatten_cons, Nat.zero_mul, List.drop_zero, List.take_append_of_le_length (by omega), List.take_of_length_le (by omega)]
    | succ k =>
      rw [List.flatten_cons, List.drop_append, List.drop_of_length_le (by omega), List.nil_append, ha, show (k + 1) * 30 - 30 = k * 30 by omega]
      exact ih (fun t ht => hl t (by simp [ht])) (by simpa using hk)
 rw [List.extract_toArray, List.extract_eq_take_drop, show k * 30 + 30 - k * 30 = 30 by omega, e]
theorem pend_succ {bs : List Bool} {n : Nat} (b : Bool) (h : bs.getD n false = b) : ((pendTo bs (n + 1)).map fun k : Nat => Value.int .i64 (k : Int)) = ((pendTo bs n).map fun k : Nat => Value.int .i64 (k : Int)) ++ (if b = true then [.int .i64 (n : Int)] else []) := by
 cases b with
 | true => rw [pend_yes h]; simp
 | false => rw [pend_no h]; simp
set_option maxHeartbeats 4000000 in
theorem world_pending (g : Nat) (cs : Array Value) (T : List (List Value)) (bs : List Bool) (w : World) (hb : Blk w g 129 cs) (hT : (cs.toList.drop 8).take 120 = T.flatten) (h4 : T.length = 4) (hl : ∀ t ∈ T, t.length = 30) (ho : ∀ t ∈ T, t.toArray.all (·.oneCell') = true) (hbs : ∀ (k : Nat) (t : List Value), T[k]? = some t → t[0]? = some (Value.bool (bs.getD k false))) :
  Calls Tryz.prog 18 #[.pointer (some ⟨g, 0, none⟩)] w fun r w' => ∃ A c, r = .returned (.slice A (pendTo bs 4).length c) ∧ Sl w' A (pendTo bs 4).length ((pendTo bs 4).map fun k : Nat => Value.int .i64 (k : Int)) ∧ Only [] w w' := by
 obtain ⟨i0, hi, hz0, hz1, hz2⟩ := info_parts Tryz.intInfo
 have HI := hq9 hi
 have HZ0 := hq9 hz0
 have HZ1 := hq9 hz1
 have HZ2 := hq9 hz2
 obtain ⟨ti, cz, hti, htz, hts, htc⟩ := thInfo
 have HTI := hq9 hti
 have HTS := hq9 hts
 have HTC := hq9 htc
 have HTZ := hq9 (show (Tryz.prog.info? 126).map (·.zero) = some (some cz) by rw [hti]; simp [htz])
 have hlen : T.flatten.length = 120 := by
  have : ∀ (l : List (List Value)), (∀ t ∈ l, t.length = 30) → l.flatten.length = 30 * l.length := by
   intro l
   induction l with
   | nil => intro _; rfl
   | cons a l ih =>
     intro h
     rw [List.flatten_cons, List.length_append, ih (fun t ht => h t (by simp [ht])), h a (by simp), List.length_cons]
     omega
  rw [this T hl, h4]
 have HLEN := hq9 hlen
 have HR := hq9 (blk_range hb 8 T.flatten (fun j v hj => by
  rw [← hT] at hj
  have hjl : j < 120 := by
   have := (List.getElem?_eq_some_iff.1 hj).1
   rw [hT, hlen] at this
   exact this
  rw [List.getElem?_take_of_lt hjl, List.getElem?_drop] at hj
  simpa using hj))
 have HU := hq9 (Tryz.underlying127)
 have HIX := hq9 (show ∀ (k : Nat) (t : List Value) (w : World), T[k]? = some t → (Instr.index 127 (.agg T.flatten.toArray) (.int .i64 (k : Nat))).run Tryz.prog w = .ok (.agg t.toArray) w from fun k t w hk => by
  rw [run_index_agg _ 126 4 30 ti _ k w Tryz.underlying127 thFs hti hts (by have := (List.getElem?_eq_some_iff.1 hk).1; omega), part_of hl hk])
 have HGT := hq9 (show ∀ k : Nat, k < 4 → ∃ t, T[k]? = some t from fun k hk => ⟨_, List.getElem?_eq_getElem (by omega)⟩)
 have HL := hq9 (show ∀ (k : Nat) (t : List Value), T[k]? = some t → t.length = 30 from fun k t h => hl t (List.mem_of_getElem? h))
 have HO := hq9 (show ∀ (k : Nat) (t : List Value), T[k]? = some t → t.toArray.all (·.oneCell') = true from fun k t h => ho t (List.mem_of_getElem? h))
 have HBS := hq9 hbs
 have HB := hq9 hb
 clear hb hT h4 hl ho hbs hi hz0 hz1 hz2 hti htz hts htc hlen
 generalize T.flatten = X at *
 go_enter Tryz.func18, Tryz.ntmps18
 go_wp2_with ((with_reducible show wpList _ _ _ (Oper.mk (some 12) _ _ _ _ _ :: _) _ _); refine wpList_load_mid rfl _ (.tmp 11) rfl g 8 rfl X _ HR.out HU.out rfl (by rw [HLEN.out]; kernel_rfl) ?_)
 generalize hX : X.toArray = XA at *
 clear hX
 go_loopw [3, 13] (fun v3 vi wr => ∃ i : Nat, vi = .int .i64 i ∧ i ≤ 4 ∧ wr.ownsRow w.heap.size 3 1 v3 (pendTo bs i).length ((pendTo bs i).map fun k : Nat => Value.int .i64 (k : Int)) ∧ Only [] w wr) (fun _ vi _ => 4 - (intOf vi).toNat)
 case atStart => exact ⟨0, rfl, by omega, by simpa [pendTo] using own_nil _ _ _ _, Only.refl _ _⟩
 case round =>
  obtain ⟨i, rfl, hi, ho, on⟩ := hrel
  have HOW := hq9 ho
  have ON := hq9 on
  clear ho on
  rcases (show i = 4 ∨ i < 4 by omega) with rfl | hlt
  ·obtain ⟨A, c, rfl, _, _⟩ := own_slice HOW.out
   go_wp2
   go_ret
   exact ⟨A, c, rfl, Sl.of_own HOW.out, ON.out⟩
  ·have h0 : (0 : Int) ≤ (i : Int) := by omega
   have h4 : (i : Int) < 4 := by omega
   obtain ⟨t, ht⟩ := HGT.out i hlt
   have HT := hq9 ht
   have hix := fun w => HIX.out i t w HT.out
   have HL1 := hq9 (HL.out i t ht)
   have HO1 := hq9 (HO.out i t ht)
   have HB1 := hq9 (HBS.out i t ht)
   have HLE := hq9 (pend_len bs i)
   clear ht
   cases hb : bs.getD i false with
   | true =>
     have HSU := hq9 (pend_succ true hb)
     have HB2 := hq9 (HB1.out.trans (by rw [hb]))
     have HLN := hq9 (show (pendTo bs (i + 1)).length = (pendTo bs i).length + 1 by rw [pend_yes hb]; simp)
     clear hb
     go_wp2_with (first | (at_builtin; obtain ⟨A8, c8, w8, hr8, hw8, hs8, on8⟩ := append_own (P := Tryz.prog) (w3.alloc (.cells #[.int .i64 (i : Int)] 3)) (ON3.out.alloc _) 23 23 3 i0 _ 8 Tryz.underlying23 HI.out HZ0.out HZ1.out HZ2.out rfl _ (pendTo bs i).length _ (HO3.out.alloc _) (some ⟨w3.heap.size, 0, none⟩) 1 1 [.int .i64 (i : Int)] (cell_new1 _ _ _) (ints_new1 _ _) (by unfold maxLen; have := HLE.out; omega) (by have := HLE.out; omega); have H8 := hq9 hw8; have N8 := hq9 on8; clear hw8 hs8 on8; refine wpList_append_run _ rfl (.tmp 19) (.tmp 21) 23 rfl _ _ rfl rfl _ _ hr8 ?_) | ((with_reducible show wpList _ _ _ (Oper.mk (some 5) _ _ _ _ _ :: _) _ _); refine wpList_alloc_blk rfl 126 rfl cz HTZ.out ?_; intro w2 hb2 ho2 hs2; have B2 := hq9 hb2; have O2 := hq9 ho2; clear hb2 ho2 hs2) | ((with_reducible show wpList _ _ _ (Oper.mk none _ _ _ _ _ :: _) _ _); refine wpList_store_all rfl 126 (.tmp 5) (.tmp 16) rfl wr.heap.size t.toArray rfl rfl _ _ B2.out (by rw [HTC.out, List.size_toArray, HL1.out]) (by rw [List.size_toArray, HL1.out]; kernel_rfl) HO1.out ?_; intro w3 hb3 ho3; have x0 : w3.cell? ⟨wr.heap.size, 0, none⟩ = some (.bool true) := (by rw [hb3.cell, List.getElem?_toArray]; exact HB2.out); have o23 : Only [] wr w3 := O2.out.trans ho3 (by simp); have ON3 := hq9 (ON.out.trans0 o23); have HO3 := hq9 (own_only HOW.out o23 (by simp)); clear hb3 ho3 o23))
     go_roundw
     ·exact ⟨i + 1, by simp, by omega, by rw [HSU.out, HLN.out]; exact H8.out, N8.out⟩
     ·simp [intOf]
      omega
   | false =>
     have HSU := hq9 (pend_succ false hb)
     have HB2 := hq9 (HB1.out.trans (by rw [hb]))
     have HLN := hq9 (show (pendTo bs (i + 1)).length = (pendTo bs i).length by rw [pend_no hb])
     clear hb
     go_wp2_with (first | ((with_reducible show wpList _ _ _ (Oper.mk (some 5) _ _ _ _ _ :: _) _ _); refine wpList_alloc_blk rfl 126 rfl cz HTZ.out ?_; intro w2 hb2 ho2 hs2; have B2 := hq9 hb2; have O2 := hq9 ho2; clear hb2 ho2 hs2) | ((with_reducible show wpList _ _ _ (Oper.mk none _ _ _ _ _ :: _) _ _); refine wpList_store_all rfl 126 (.tmp 5) (.tmp 16) rfl wr.heap.size t.toArray rfl rfl _ _ B2.out (by rw [HTC.out, List.size_toArray, HL1.out]) (by rw [List.size_toArray, HL1.out]; kernel_rfl) HO1.out ?_; intro w3 hb3 ho3; have x0 : w3.cell? ⟨wr.heap.size, 0, none⟩ = some (.bool false) := (by rw [hb3.cell, List.getElem?_toArray]; exact HB2.out); have o23 : Only [] wr w3 := O2.out.trans ho3 (by simp); have ON3 := hq9 (ON.out.trans0 o23); have HO3 := hq9 (own_only HOW.out o23 (by simp)); clear hb3 ho3 o23))
     go_roundw
     ·exact ⟨i + 1, by simp, by omega, by rw [HSU.out, HLN.out, if_neg (by simp), List.append_nil]; exact HO3.out, ON3.out⟩
     ·simp [intOf]
      omega
end Go.Proofs.YtlggichakafkiaaGreat
namespace Go.Proofs.YtlggichakafkiaaGreat
open Go.BigFrame Go.RowKit Go.Proofs.FuMem Go.Proofs.FuTop Go.Proofs.FuNvm Go.Proofs.FuPool Go.Proofs.FuClk Go.Proofs.FuBlock Go.Proofs.FuClass Go.Proofs.FuCrc
set_option maxRecDepth 100000
theorem WdIn.steps {w : World} {g gd cb cap : Nat} {x : Wd} {B : ArB} {S : ArS} {D : Dev} (h : WdIn w g gd cb cap x B S D) (n : Int) : WdIn (w.setCell ⟨g, 128, none⟩ (.int .i64 n)) g gd cb cap { x with steps := n } B S D ∧ Only [g] w (w.setCell ⟨g, 128, none⟩ (.int .i64 n)) := by
 have o := (Only.refl [g] w).setCell (p := ⟨g, 128, none⟩) (.inl (by simp)) (.int .i64 n)
 exact ⟨h.own o (h.wd.set 128 (.int .i64 n)) rfl, o⟩
theorem do_call (g gd cb cap : Nat) (x : Wd) (B : ArB) (S : ArS) (D : Dev) (w : World) (h : WdIn w g gd cb cap x B S D) (ht : x.threads = 1) (hbu : x.busy = false) (hst : x.st = .slice none 0 0) (hsp : x.steps = 0) :
  Calls Tryz.prog 17 #[.pointer (some ⟨g, 0, none⟩), .agg (evC 1 putC).toArray] w fun r w' => r = .returned (.int .i64 0) ∧ ∃ v, WdIn w' g gd cb cap { x with busy := true, f := awF 0 0 (-1) 0 0, story := 0, st := v, steps := 1 } B S D ∧ RowS 54 14 w' v [stoC putC (ansC 0 false ⟨#[]⟩ 0) 1 (-1)] ∧ Only [g] w w' ∧ ∀ b, v.ownBlock = some b → w.heap.size ≤ b := by
 refine (world_Do g (evC 1 putC) 1 99 w rfl rfl (by decide) rfl (fun _ => rfl) 0 (fun w1 w2 => ∃ v, Blk w2 g 129 (wdC { x with busy := true, f := beginF 2 putK putV ⟨#[]⟩, story := 0, st := v }).toArray ∧ RowS 54 14 w2 v [stoC putC (ansC 0 false ⟨#[]⟩ 0) 1 (-1)] ∧ Only [g] w1 w2 ∧ ∀ b, v.ownBlock = some b → w1.heap.size ≤ b) (fun w1 o => (world_call g x w1 (h.keep o).wd ht hbu hst hsp).mono ?_)).mono ?_
 ·rintro r w' ⟨rfl, v, hb, hr, ho, hn⟩
  exact ⟨rfl, by rw [← hsp]; exact hb.cell 128, hb.frozen 128, v, hb, hr, ho, hn⟩
 ·rintro r w' ⟨rfl, w1, w2, o1, ⟨v, hb, hr, ho, hn⟩, rfl⟩
  have e : wrap64 (0 + 1) = 1 := by unfold wrap64; omega
  rw [e]
  have H2 := (h.keep o1).own ho hb rfl
  have H3 := H2.steps 1
  have hg := (h.keep o1).wd.lt
  refine ⟨rfl, v, H3.1, hr.only H3.2 (fun b hb2 hm => ?_), (o1.mono (T := [g]) (by simp)).trans (ho.trans H3.2 (fun b hb => .inl hb)) (fun b hb => .inl hb), fun b hb2 => Nat.le_trans o1.size (hn b hb2)⟩
  have := hn b hb2
  simp at hm
  omega
theorem do_step (g gd cb cap : Nat) (x : Wd) (B : ArB) (S S' : ArS) (D D' : Dev) (f' : Fr) (n : Nat) (w : World) (h : WdIn w g gd cb cap x B S D) (ht : x.threads = 1) (hbu : x.busy = true) (hk : x.f.k = 2) (hs : Stp gd cb cap B S S' D D' x.f f') (hp : f'.ph ≠ 7) (hsp : x.steps = n) (hn : n < 1000) :
  Calls Tryz.prog 17 #[.pointer (some ⟨g, 0, none⟩), .agg ev2.toArray] w fun r w' => r = .returned (.int .i64 0) ∧ ∃ B', B'.a = B.a ∧ WdIn w' g gd cb cap { x with f := f', steps := ((n + 1 : Nat) : Int) } B' S' D' ∧ Only (g :: turnT gd cb B) w w' ∧ ∀ b ∈ (arFs B').flatten, b ∈ (arFs B).flatten ∨ w.heap.size ≤ b := by
 refine (world_Do g ev2 2 100 w rfl rfl (by decide) rfl (fun _ => rfl) n (fun w1 w2 => ∃ B', B'.a = B.a ∧ WdIn w2 g gd cb cap { x with f := f' } B' S' D' ∧ Only (g :: turnT gd cb B) w1 w2 ∧ ∀ b ∈ (arFs B').flatten, b ∈ (arFs B).flatten ∨ w1.heap.size ≤ b) (fun w1 o => (world_step g gd cb cap x B S S' D D' f' w1 (h.keep o) ht hbu hk hs hp).mono ?_)).mono ?_
 ·rintro r w' ⟨rfl, B', ha, hw, ho, own⟩
  exact ⟨rfl, by rw [← hsp]; exact hw.wd.cell 128, hw.wd.frozen 128, B', ha, hw, ho, own⟩
 ·rintro r w' ⟨rfl, w1, w2, o1, ⟨B', ha, hw, ho, own⟩, rfl⟩
  have e : wrap64 ((n : Int) + 1) = ((n + 1 : Nat) : Int) := by unfold wrap64; omega
  rw [e]
  have H3 := hw.steps ((n + 1 : Nat) : Int)
  exact ⟨rfl, B', ha, H3.1, (o1.mono (T := g :: turnT gd cb B) (by simp)).trans (ho.trans H3.2 (fun b hb => .inl (by simp at hb; simp [hb]))) (fun b hb => .inl hb), fun b hb => (own b hb).imp id (fun q => Nat.le_trans o1.size q)⟩
theorem do_last (g gd cb cap : Nat) (x : Wd) (B : ArB) (S S' : ArS) (D D' : Dev) (f' : Fr) (n : Nat) (w : World) (h : WdIn w g gd cb cap x B S D) (ht : x.threads = 1) (hbu : x.busy = true) (hk : x.f.k = 2) (hs : Stp gd cb cap B S S' D D' x.f f') (hp : f'.ph = 7) (sb sc : Nat) (ss : Array Value) (hst : x.st = .slice (some ⟨sb, 0, none⟩) 1 sc) (hsb : Blk w sb 54 ss) (hss : ss.toList.take 14 = stoC putC (ansC 0 false ⟨#[]⟩ 0) 1 (-1)) (hsn : sb ≠ g ∧ sb ∉ turnT gd cb B) (hsy : x.story = 0) (hsp : x.steps = n) (hn : n < 1000) :
  Calls Tryz.prog 17 #[.pointer (some ⟨g, 0, none⟩), .agg ev2.toArray] w fun r w' => r = .returned (.int .i64 0) ∧ ∃ B', B'.a = B.a ∧ WdIn w' g gd cb cap { x with busy := false, f := noF, story := 0, steps := ((n + 1 : Nat) : Int) } B' S' D' ∧ Only (g :: sb :: turnT gd cb B) w w' ∧ ∀ b ∈ (arFs B').flatten, b ∈ (arFs B).flatten ∨ w.heap.size ≤ b := by
 refine (world_Do g ev2 2 100 w rfl rfl (by decide) rfl (fun _ => rfl) n (fun w1 w2 => ∃ B', B'.a = B.a ∧ WdIn w2 g gd cb cap { x with busy := false, f := noF, story := 0 } B' S' D' ∧ Only (g :: sb :: turnT gd cb B) w1 w2 ∧ ∀ b ∈ (arFs B').flatten, b ∈ (arFs B).flatten ∨ w1.heap.size ≤ b) (fun w1 o => (world_step_last g gd cb cap x B S S' D D' f' w1 (h.keep o) ht hbu hk hs hp sb sc ss hst (hsb.only o (by simp)) hss hsn hsy).mono ?_)).mono ?_
 ·rintro r w' ⟨rfl, B', ha, hw, ho, own⟩
  exact ⟨rfl, by rw [← hsp]; exact hw.wd.cell 128, hw.wd.frozen 128, B', ha, hw, ho, own⟩
 ·rintro r w' ⟨rfl, w1, w2, o1, ⟨B', ha, hw, ho, own⟩, rfl⟩
  have e : wrap64 ((n : Int) + 1) = ((n + 1 : Nat) : Int) := by unfold wrap64; omega
  rw [e]
  have H3 := hw.steps ((n + 1 : Nat) : Int)
  exact ⟨rfl, B', ha, H3.1, (o1.mono (T := g :: sb :: turnT gd cb B) (by simp)).trans (ho.trans H3.2 (fun b hb => .inl (by simp at hb; simp [hb]))) (fun b hb => .inl hb), fun b hb => (own b hb).imp id (fun q => Nat.le_trans o1.size q)⟩
end Go.Proofs.YtlggichakafkiaaGreat
namespace Go.Proofs.YtlggichakafkiaaGreat
open Go.BigFrame Go.RowKit Go.Proofs.FuMem Go.Proofs.FuTop Go.Proofs.FuNvm Go.Proofs.FuPool Go.Proofs.FuClk Go.Proofs.FuBlock Go.Proofs.FuClass Go.Proofs.FuCrc
set_option maxRecDepth 100000
def aS0 : ArS := upS 1 0 18
def aS1 : ArS := { aS0 with has := [aS0.now] }
def aS3 : ArS := { aS1 with P := takeP (newPool 2) 0 }
def aS5 : ArS := putS aS3
def aS6 : ArS := { aS5 with has := [0] }
def aS : Nat → ArS
 | 0 => aS0
 | 1 => aS1
 | 2 => aS1
 | 3 => aS3
 | 4 => aS3
 | 5 => aS5
 | _ => aS6
def aD0 : Dev := formatD (newDev 18)
def aD4 : Dev := store1 aD0 2 0 (draftOf 0)
def aD5 : Dev := store1 aD4 2 0 encA
def aD : Nat → Dev
 | 0 => aD0
 | 1 => aD0
 | 2 => aD0
 | 3 => aD0
 | 4 => aD4
 | _ => aD5
def aF : Nat → Fr
 | 0 => awF 0 0 (-1) 0 0
 | 1 => awF 1 1 (-1) 0 0
 | 2 => awF 3 1 (-1) 0 0
 | 3 => awF 4 1 2 0 0
 | 4 => awF 5 1 2 0 0
 | 5 => awF 6 1 (-1) 0 1
 | _ => awF 7 1 (-1) 0 1
theorem aw_stp (gd cb cap : Nat) (B : ArB) (i : Nat) (hi : i < 5) : Stp gd cb cap B (aS i) (aS (i + 1)) (aD i) (aD (i + 1)) (aF i) (aF (i + 1)) ∧ (aF (i + 1)).ph ≠ 7 := by
 rcases (show i = 0 ∨ i = 1 ∨ i = 2 ∨ i = 3 ∨ i = 4 by omega) with rfl | rfl | rfl | rfl | rfl
 ·exact ⟨stp_enter gd cb cap B aS0 aD0 rfl rfl, by decide⟩
 ·exact ⟨stp_find gd cb cap B aS1 aD0 rfl, by decide⟩
 ·exact ⟨stp_take gd cb cap B aS1 aD0 (by rfl), by decide⟩
 ·exact ⟨stp_write gd cb cap B aS3 aD0, by decide⟩
 ·exact ⟨stp_publish gd cb cap B aS3 aD4 rfl rfl rfl rfl (show Ok (takeP (newPool 2) 0) from takeP_ok (newPool_ok 2)) rfl rfl rfl (by decide) rfl (fun L hL => by
   have : L ∈ List.replicate 4 ([] : List Link) := hL
   rw [(List.mem_replicate.1 this).2]
   exact ⟨by simp [Rising], by simp⟩), by decide⟩
theorem aw_last (gd cb cap : Nat) (B : ArB) : Stp gd cb cap B (aS 5) (aS 6) (aD 5) (aD 6) (aF 5) (aF 6) := stp_leave gd cb cap B aS5 aD5 1 rfl (by decide)
theorem aw_shelf : (shelfOf (bytesAt (aD 6)) (aS 6).T (aS 6).L).pairs = [([97], [49])] := by decide +kernel
end Go.Proofs.YtlggichakafkiaaGreat
namespace Go.Proofs.YtlggichakafkiaaGreat
open Go.BigFrame Go.RowKit Go.Proofs.FuMem Go.Proofs.FuTop Go.Proofs.FuNvm Go.Proofs.FuPool Go.Proofs.FuClk Go.Proofs.FuBlock Go.Proofs.FuClass Go.Proofs.FuCrc
set_option maxRecDepth 100000
def aX (gd a sb sc i : Nat) : Wd := ⟨((18 : Nat) : Int), ((1 : Nat) : Int), 0, gd, a, decide (i < 6), if i < 6 then aF i else noF, 0, ((i + 1 : Nat) : Int), 0, .slice none 0 0, .slice (some ⟨sb, 0, none⟩) 1 sc⟩
structure AwAt (w0 w : World) (g gd cb sb sc a : Nat) (ss : Array Value) (i : Nat) : Prop where
 wd : ∃ B, B.a = a ∧ WdIn w g gd cb 18 (aX gd a sb sc i) B (aS i) (aD i) ∧ sb ∉ turnT gd cb B ∧ ∀ b ∈ turnT gd cb B, w0.heap.size ≤ b
 st : i < 6 → Blk w sb 54 ss
 ne : sb ≠ g
 on : Only [] w0 w
 g0 : w0.heap.size ≤ g
 s0 : w0.heap.size ≤ sb
theorem turn_only {w0 w w' : World} {g gd cb sb : Nat} {B : ArB} {T : List Nat} (hT : ∀ b ∈ T, b = g ∨ b = sb ∨ b ∈ turnT gd cb B) (on : Only [] w0 w) (hg : w0.heap.size ≤ g) (hs : w0.heap.size ≤ sb) (ht : ∀ b ∈ turnT gd cb B, w0.heap.size ≤ b) (o : Only T w w') : Only [] w0 w' :=
 on.trans o (fun b hb => .inr (by
  rcases hT b hb with rfl | rfl | h
  ·exact hg
  ·exact hs
  ·exact ht b h))
theorem turn_next {w0 w : World} {gd cb sb : Nat} {B B' : ArB} (on : Only [] w0 w) (hsl : sb < w.heap.size) (h : sb ∉ turnT gd cb B) (ht : ∀ b ∈ turnT gd cb B, w0.heap.size ≤ b) (own : ∀ b ∈ (arFs B').flatten, b ∈ (arFs B).flatten ∨ w.heap.size ≤ b) : sb ∉ turnT gd cb B' ∧ ∀ b ∈ turnT gd cb B', w0.heap.size ≤ b := by
 have hs := on.size
 unfold turnT at *
 simp only [List.mem_cons, not_or] at *
 refine ⟨⟨h.1, h.2.1, fun hm => ?_⟩, fun b hb => ?_⟩
 ·rcases own _ hm with q | q
  ·exact h.2.2 q
  ·omega
 ·rcases hb with q | q | q
  ·exact ht b (.inl q)
  ·exact ht b (.inr (.inl q))
  ·rcases own _ q with r | r
   ·exact ht b (.inr (.inr r))
   ·omega
theorem aw_next (w0 w : World) (g gd cb sb sc a : Nat) (ss : Array Value) (hss : ss.toList.take 14 = stoC putC (ansC 0 false ⟨#[]⟩ 0) 1 (-1)) (i : Nat) (hi : i < 6) (h : AwAt w0 w g gd cb sb sc a ss i) :
  Calls Tryz.prog 17 #[.pointer (some ⟨g, 0, none⟩), .agg ev2.toArray] w fun r w' => r = .returned (.int .i64 0) ∧ AwAt w0 w' g gd cb sb sc a ss (i + 1) := by
 obtain ⟨⟨B, ha, hw, hsn, ht⟩, hst, hne, on, hg, hs⟩ := h
 by_cases h5 : i < 5
 ·obtain ⟨hp, hph⟩ := aw_stp gd cb 18 B i h5
  have e1 : (aX gd a sb sc i).f = aF i := by unfold aX; simp [hi]
  have hk : (aX gd a sb sc i).f.k = 2 := by
   rw [e1]
   rcases (show i = 0 ∨ i = 1 ∨ i = 2 ∨ i = 3 ∨ i = 4 by omega) with rfl | rfl | rfl | rfl | rfl <;> rfl
  refine (do_step g gd cb 18 _ B _ _ _ _ (aF (i + 1)) (i + 1) w hw rfl (by unfold aX; simp [hi]) hk (by rw [e1]; exact hp) hph rfl (by omega)).mono ?_
  rintro r w' ⟨rfl, B', ha', hw', o, own⟩
  have e2 : ({ aX gd a sb sc i with f := aF (i + 1), steps := ((i + 1 + 1 : Nat) : Int) } : Wd) = aX gd a sb sc (i + 1) := by
   unfold aX
   have : i + 1 < 6 := by omega
   simp [hi, this]
  rw [e2] at hw'
  have hsl := (hst hi).lt
  obtain ⟨t1, t2⟩ := turn_next on hsl hsn ht own
  exact ⟨rfl, ⟨B', ha'.trans ha, hw', t1, t2⟩, fun _ => (hst hi).only o (by simp [hne, hsn]), hne, turn_only (sb := sb) (fun b hb => by simp only [List.mem_cons] at hb; exact hb.imp id .inr) on hg hs ht o, hg, hs⟩
 ·obtain rfl : i = 5 := by omega
  refine (do_last g gd cb 18 _ B _ _ _ _ (aF 6) 6 w hw rfl rfl rfl (aw_last gd cb 18 B) rfl sb sc ss rfl (hst hi) hss ⟨hne, hsn⟩ rfl rfl (by omega)).mono ?_
  rintro r w' ⟨rfl, B', ha', hw', o, own⟩
  have hsl := (hst hi).lt
  obtain ⟨t1, t2⟩ := turn_next on hsl hsn ht own
  exact ⟨rfl, ⟨B', ha'.trans ha, hw', t1, t2⟩, fun h => absurd h (by omega), hne, turn_only (sb := sb) (fun b hb => by simp only [List.mem_cons] at hb; exact hb) on hg hs ht o, hg, hs⟩
theorem aw_start (w : World) : Calls Tryz.prog 15 #[.agg #[.int .i64 18, .int .i64 1, .int .i64 0]] w fun r w' => ∃ g, r = .returned (.tuple #[.pointer (some ⟨g, 0, none⟩), .int .i64 0]) ∧ w.heap.size ≤ g ∧ Only [] w w' ∧ ∀ w2, Only [] w' w2 → Calls Tryz.prog 17 #[.pointer (some ⟨g, 0, none⟩), .agg (evC 1 putC).toArray] w2 fun r w3 => r = .returned (.int .i64 0) ∧ ∃ gd cb sb sc a ss, ss.toList.take 14 = stoC putC (ansC 0 false ⟨#[]⟩ 0) 1 (-1) ∧ AwAt w w3 g gd cb sb sc a ss 0 := by
 refine (world_New 18 1 w (by omega) (by omega) (by omega) (by omega)).mono ?_
 rintro r w1 ⟨g, gd, cb, B, rfl, hw, o, hg, ht⟩
 refine ⟨g, rfl, hg, o, fun w2 o2 => ?_⟩
 refine (do_call g gd cb 18 _ B _ _ w2 (hw.keep o2) rfl rfl rfl rfl).mono ?_
 rintro r w3 ⟨rfl, v, hw3, hr, o3, hv⟩
 obtain ⟨A, c, rfl, hc1, hc2⟩ := hr.slice
 obtain ⟨sb, rfl, _⟩ := hr.cell (i := 0) (by simp)
 obtain ⟨ss, hsb, _, _, _, hsz, hcs⟩ := hr.blk'
 have hsv := hv sb rfl
 have hgl := (hw.keep o2).wd.lt
 have s1 := o.size
 have s2 := o2.size
 have hlt : ∀ b ∈ turnT gd cb B, b < w2.heap.size := fun b hb => by
  unfold turnT at hb
  simp only [List.mem_cons] at hb
  have l := (hw.keep o2).ch.lo
  rcases hb with rfl | rfl | hb
  ·exact l.1
  ·exact l.2
  ·exact (hw.keep o2).ch.ar.lt b hb
 refine ⟨rfl, gd, cb, sb, c, B.a, ss, ?_, ⟨B, rfl, hw3, fun hm => ?_, ht⟩, fun _ => hsb, by omega, (o.trans0 o2).trans o3 (fun b hb => .inr (by simp at hb; omega)), hg, by omega⟩
 ·simpa using hcs
 ·have := hlt sb hm; omega
set_option maxHeartbeats 4000000 in
theorem top_awake (w : World) : Calls Tryz.prog 13 #[] w fun e w' => e = .returned (.bool true) ∧ Only [] w w' := by
 have HN := hq9 (aw_start w)
 have HNX := hq9 aw_next
 go_enter Tryz.func13, Tryz.ntmps13
 go_wp2_with fail
 refine HN.out.mono ?_
 rintro r w1 ⟨g, rfl, hg, o1, hc⟩
 have HC := hq9 (hc w1 (Only.refl _ _))
 have O1 := hq9 o1
 clear hc o1 hg
 unfold evC putC callC putK putV at HC
 go_wp2_with fail
 refine HC.out.mono ?_
 rintro r w2 ⟨rfl, gd, cb, sb, sc, a, ss, hss, hA⟩
 have HA := hq9 hA
 have HSS := hq9 hss
 clear hss hA
 go_wp2_with fail
 go_loopw [3] (fun vi wr => ∃ i : Nat, vi = .int .i64 i ∧ i ≤ 6 ∧ AwAt w wr g gd cb sb sc a ss i) (fun vi _ => 6 - (intOf vi).toNat)
 case atStart => exact ⟨0, rfl, by omega, HA.out⟩
 case round =>
  obtain ⟨i, rfl, hi, hA⟩ := hrel
  have HR := hq9 hA
  clear hA
  by_cases hlt : i < 6
  ·have h6 : decide ((i : Int) < 6) = true := by rw [decide_eq_true_eq]; omega
   have HD := hq9 (HNX.out w wr g gd cb sb sc a ss HSS.out i hlt HR.out)
   unfold ev2 at HD
   go_wp2_with fail
   refine HD.out.mono ?_
   rintro r w3 ⟨rfl, hA⟩
   have HR3 := hq9 hA
   clear hA
   go_wp2
   go_roundw
   ·exact ⟨i + 1, by simp, by omega, HR3.out⟩
   ·simp [intOf]
    omega
  ·obtain rfl : i = 6 := by omega
   obtain ⟨⟨B, ha, hw, _, _⟩, _, _, on, _, _⟩ := HR.out
   have HW := hq9 hw
   have ON := hq9 on
   have HSH := hq9 (world_Shelf g gd cb 18 _ B _ _ wr hw (fun k hk => by
    have hm : k ∈ [(⟨[97], 1, 1, 2, 0⟩ : Link)] ∨ k ∈ ([] : List Link) := hk
    simp at hm
    subst hm
    exact ⟨by decide, by decide⟩) (by decide) (by decide))
   rw [aw_shelf] at HSH
   clear ha hw on
   have HPD := hq9 (fun (W : World) (o : Only [] wr W) => world_pending g (wdC (aX gd a sb sc 6)).toArray [thrC false noF 0, thrC false noF 0, thrC false noF 0, thrC false noF 0] [] W (HW.out.keep o).wd rfl rfl (by decide) (fun t ht => by
    have : t = thrC false noF 0 := by simpa using ht
    subst this
    exact one_of rfl) (fun k t ht => by
    have hm := List.mem_of_getElem? ht
    have : t = thrC false noF 0 := by simpa using hm
    subst this
    rfl))
   rw [show (pendTo [] 4).length = 0 from rfl] at HPD
   go_wp2_with fail
   refine HSH.out.mono ?_
   rintro r w5 ⟨pv, qv, rfl, hp, hq, o5⟩
   obtain ⟨A1, x1, hA1, _, _⟩ := hp.slice
   obtain ⟨A2, x2, hA2, _, _⟩ := hq.slice
   obtain ⟨n2, hn2⟩ : ∃ n, qv = .slice A2 n x2 := ⟨_, hA2⟩
   rw [show (List.map pairC [([97], [49])]).length = 1 from rfl] at hA1
   subst hA1
   clear hA2
   subst hn2
   obtain ⟨pb, rfl, hc0, hc1⟩ := row_pair (k := 0) hp rfl
   have HP := hq9 (show w5.cell? ⟨pb, 1, none⟩ = some (.string ⟨#[49]⟩) from hc1)
   have HPL := hq9 (lt_of_cell hc1)
   have O5 := hq9 o5
   have OX := hq9 ((Only.refl [] w5).alloc (.cells #[.slice (some ⟨pb, 0, none⟩) 1 x1, .slice A2 n2 x2] 60))
   have BX := hq9 (Blk.new w5 60 #[.slice (some ⟨pb, 0, none⟩) 1 x1, .slice A2 n2 x2])
   clear hp hq hc0 hc1 o5
   go_wp2_with fail
   generalize (w5.alloc _) = w6 at *
   refine (HPD.out w6 (O5.out.trans0 OX.out)).mono ?_
   rintro r w7 ⟨A7, x7, rfl, _, o7⟩
   have O7 := hq9 (OX.out.trans0 o7)
   have B7 := BX.out.only o7 (by simp)
   have s0 := B7.cell 0
   have s1 := B7.cell 1
   have p1 : w7.cell? ⟨pb, 1, none⟩ = some (.string ⟨#[49]⟩) := by rw [cell_only O7.out HPL.out (by simp)]; exact HP.out
   clear o7 B7
   go_wp2
   go_ret
   exact ⟨rfl, (ON.out.trans0 O5.out).trans0 O7.out⟩
end Go.Proofs.YtlggichakafkiaaGreat
namespace Go.Proofs.YtlggichakafkiaaGreat
open Go.BigFrame Go.RowKit Go.Proofs.FuMem Go.Proofs.FuTop Go.Proofs.FuNvm Go.Proofs.FuPool Go.Proofs.FuClk Go.Proofs.FuBlock Go.Proofs.FuClass Go.Proofs.FuCrc Go.Proofs.FuCode
set_option maxRecDepth 100000
theorem tdiv_in {a : Int} (h : -9223372036854775808 ≤ a ∧ a ≤ 9223372036854775807) : -9223372036854775808 ≤ a.tdiv 64 ∧ a.tdiv 64 ≤ 9223372036854775807 := by
 rcases Int.le_total 0 a with h0 | h0
 ·rw [Int.tdiv_eq_ediv_of_nonneg h0]
  omega
 ·have e : a.tdiv 64 = -((-a).tdiv 64) := by rw [Int.neg_tdiv, Int.neg_neg]
  rw [e, Int.tdiv_eq_ediv_of_nonneg (by omega)]
  omega
theorem hostile_early1 (lines : Int) (f : Bool) (A1 : Option Addr) (n1 c1 : Nat) (A2 : Option Addr) (n2 c2 : Nat) (A3 : Option Addr) (n3 c3 : Nat) (w : World) (b1 : 60 < n1) :
  Calls Tryz.prog 5 #[.int .i64 lines, .bool f, .slice A1 n1 c1, .slice A2 n2 c2, .slice A3 n3 c3] w fun e w' => e = .returned (.bool true) ∧ Only [] w w' := by
 have q1 : decide ((60 : Int) < (n1 : Int)) = true := by rw [decide_eq_true_eq]; omega
 go_enter Tryz.func5, Tryz.ntmps5
 go_wp2_with fail
 refine (top_awake _).mono ?_
 rintro e w' ⟨rfl, o⟩
 have O := hq9 o
 clear o
 go_wp2
 go_ret
 exact ⟨rfl, O.out⟩
theorem hostile_early2 (lines : Int) (f : Bool) (A1 : Option Addr) (n1 c1 : Nat) (A2 : Option Addr) (n2 c2 : Nat) (A3 : Option Addr) (n3 c3 : Nat) (w : World) (b1 : n1 ≤ 60) (b2 : 60 < n2) :
  Calls Tryz.prog 5 #[.int .i64 lines, .bool f, .slice A1 n1 c1, .slice A2 n2 c2, .slice A3 n3 c3] w fun e w' => e = .returned (.bool true) ∧ Only [] w w' := by
 have q1 : decide ((60 : Int) < (n1 : Int)) = false := by rw [decide_eq_false_iff_not]; omega
 have q2 : decide ((60 : Int) < (n2 : Int)) = true := by rw [decide_eq_true_eq]; omega
 go_enter Tryz.func5, Tryz.ntmps5
 go_wp2_with fail
 refine (top_awake _).mono ?_
 rintro e w' ⟨rfl, o⟩
 have O := hq9 o
 clear o
 go_wp2
 go_ret
 exact ⟨rfl, O.out⟩
theorem hostile_early3 (lines : Int) (f : Bool) (A1 : Option Addr) (n1 c1 : Nat) (A2 : Option Addr) (n2 c2 : Nat) (A3 : Option Addr) (n3 c3 : Nat) (w : World) (b1 : n1 ≤ 60) (b2 : n2 ≤ 60) (b3 : 60 < n3) :
  Calls Tryz.prog 5 #[.int .i64 lines, .bool f, .slice A1 n1 c1, .slice A2 n2 c2, .slice A3 n3 c3] w fun e w' => e = .returned (.bool true) ∧ Only [] w w' := by
 have q1 : decide ((60 : Int) < (n1 : Int)) = false := by rw [decide_eq_false_iff_not]; omega
 have q2 : decide ((60 : Int) < (n2 : Int)) = false := by rw [decide_eq_false_iff_not]; omega
 have q3 : decide ((60 : Int) < (n3 : Int)) = true := by rw [decide_eq_true_eq]; omega
 go_enter Tryz.func5, Tryz.ntmps5
 go_wp2_with fail
 refine (top_awake _).mono ?_
 rintro e w' ⟨rfl, o⟩
 have O := hq9 o
 clear o
 go_wp2
 go_ret
 exact ⟨rfl, O.out⟩
set_option maxHeartbeats 8000000 in
theorem hostile_main (lines : Int) (f : Bool) (A1 : Option Addr) (n1 c1 : Nat) (l1 : List Int) (A2 : Option Addr) (n2 c2 : Nat) (l2 : List Row8) (A3 : Option Addr) (n3 c3 : Nat) (l3 : List Int) (w : World) (hb : -9223372036854775808 ≤ lines ∧ lines ≤ 9223372036854775807) (i1 : Is w A1 n1 l1) (d1 : ∀ n ∈ l1, -9223372036854775808 ≤ n ∧ n ≤ 9223372036854775807) (i2 : Rows8 w A2 n2 l2) (i3 : Is w A3 n3 l3) (b1 : n1 ≤ 60) (b2 : n2 ≤ 60) (b3 : n3 ≤ 60) :
  Calls Tryz.prog 5 #[.int .i64 lines, .bool f, .slice A1 n1 c1, .slice A2 n2 c2, .slice A3 n3 c3] w fun e w' => e = .returned (.bool true) ∧ Only [] w w' := by
 have q1 : decide ((60 : Int) < (n1 : Int)) = false := by rw [decide_eq_false_iff_not]; omega
 have q2 : decide ((60 : Int) < (n2 : Int)) = false := by rw [decide_eq_false_iff_not]; omega
 have q3 : decide ((60 : Int) < (n3 : Int)) = false := by rw [decide_eq_false_iff_not]; omega
 have HLO := hq9 (fun w => law0_Low lines 4 w (by omega) (by omega))
 have hk4 : low lines 4 < 4 := low_lt _ _ (by omega)
 have I1 := hq9 i1
 have D1 := hq9 d1
 have I2 := hq9 i2
 have I3 := hq9 i3
 clear i1 d1 i2 i3 hb
 generalize low lines 4 = k at *
 have h0 : (0 : Int) ≤ (k : Int) := by omega
 have h4 : (k : Int) < 4 := by omega
 obtain ⟨N, hN⟩ : ∃ N : Nat, 10 + 8 * (k : Int) = (N : Int) := ⟨10 + 8 * k, by omega⟩
 have hN1 : 10 ≤ N := by omega
 have hN2 : N ≤ 34 := by omega
 have HNW := hq9 (show ∀ w, Calls Tryz.prog 15 #[.agg #[.int .i64 (10 + 8 * (k : Int)), .int .i64 1, .int .i64 0]] w fun r w' => ∃ g gd cb B, r = .returned (.tuple #[.pointer (some ⟨g, 0, none⟩), .int .i64 0]) ∧ WdIn w' g gd cb N ⟨N, ((1 : Nat) : Int), 0, gd, B.a, false, noF, 0, 0, 0, .slice none 0 0, .slice none 0 0⟩ B (upS 1 0 N) (formatD (newDev N)) ∧ Only [] w w' ∧ w.heap.size ≤ g ∧ ∀ b ∈ turnT gd cb B, w.heap.size ≤ b from fun w => by
  rw [hN]
  exact world_New N 1 w hN1 (by omega) (by omega) (by omega))
 have HDV := hq9 (show ∀ w, Calls Tryz.prog 31 #[.int .i64 (10 + 8 * (k : Int))] w fun e w' => ∃ g cb, e = .returned (.tuple #[.pointer (some ⟨g, 0, none⟩), .int .i64 0]) ∧ DevAt w' g cb N (newDev N) ∧ Only [] w w' ∧ w.heap.size ≤ g ∧ w.heap.size ≤ cb from fun w => by
  rw [hN]
  exact nvm_New N w (by omega) (by omega))
 clear hN
 go_enter Tryz.func5, Tryz.ntmps5
 go_wp2_with fail
 refine (HLO.out _).mono ?_
 rintro r w' ⟨rfl, rfl⟩
 go_wp2_with fail
 refine (HNW.out _).mono ?_
 rintro r w1 ⟨g, gd, cb, B, rfl, hw, o1, hg, ht⟩
 have HW := hq9 hw
 have O1 := hq9 o1
 clear hw o1 ht
 go_wp2_with fail
 refine (world_Dev g gd cb N _ B _ _ w1 HW.out rfl).mono ?_
 rintro r w2 ⟨g2, cb2, cap2, rfl, hd, o2, hg2, hc2⟩
 have DV := hq9 hd
 have OW := hq9 (O1.out.trans0 o2)
 have hs1 := O1.out.size
 have G2 : w.heap.size ≤ g2 := by omega
 have C2 : w.heap.size ≤ cb2 := by omega
 have CALM := hq9 (calm_format N)
 clear hd o2 hg2 hc2 hs1 O1 HW
 generalize formatD (newDev N) = DD at *
 cases f
 case' true => go_wp2_with fail
 case' false =>
  clear G2 C2 DV CALM HNW DD
  go_wp2_with fail
  refine (HLO.out _).mono ?_
  rintro r w' ⟨rfl, rfl⟩
  go_wp2_with fail
  refine (HDV.out _).mono ?_
  rintro r w3 ⟨g2, cb2, rfl, hd, o2, hg2, hc2⟩
  have hs1 := OW.out.size
  have G2 : w.heap.size ≤ g2 := by omega
  have C2 : w.heap.size ≤ cb2 := by omega
  have OW := hq9 (OW.out.trans0 o2)
  have CALM := hq9 (show Calm (newDev N) ∧ (newDev N).lines.length = N from ⟨calm_new N, by simp [newDev]⟩)
  generalize newDev N = DD at *
  obtain ⟨cap2, hca⟩ : ∃ c, c = N := ⟨_, rfl⟩
  have DV := hq9 (show DevAt w3 g2 cb2 cap2 DD by rw [hca]; exact hd)
  clear hd o2 hg2 hc2 hs1 hca
  go_wp2_with fail
 all_goals
  go_loopw [14] (fun vi wr => ∃ (j : Nat) (D : Dev), vi = .int .i64 j ∧ j ≤ n1 ∧ DevAt wr g2 cb2 cap2 D ∧ Calm D ∧ D.lines.length = N ∧ Only [] w wr) (fun vi _ => n1 - (intOf vi).toNat)
  case atStart => exact ⟨0, DD, rfl, by omega, DV.out, CALM.out.1, CALM.out.2, OW.out⟩
  case round =>
   obtain ⟨j, D, rfl, hj, hd, hc, hl, on⟩ := hrel
   have HD := hq9 hd
   have HC := hq9 hc
   have HL := hq9 hl
   have ON := hq9 on
   clear hd hc hl on DV CALM OW
   by_cases hlt : j < n1 ∧ j < n2
   ·obtain ⟨hlt1, hlt2⟩ := hlt
    have p1 : decide ((j : Int) < (n1 : Int)) = true := by rw [decide_eq_true_eq]; omega
    have p2 : decide ((j : Int) < (n2 : Int)) = true := by rw [decide_eq_true_eq]; omega
    have p0 : (0 : Int) ≤ (j : Int) := by omega
    have p3 : (j : Int) < (n1 : Int) := by omega
    have p4 : (j : Int) < (n2 : Int) := by omega
    obtain ⟨rb, ro, ra, rm, rc, rl, hA2, hcell2, hrow, hrm⟩ := (I2.out.only0 ON.out).get hlt2
    obtain ⟨ab, ao, hA1, hcell1⟩ := (I1.out.only0 ON.out).at_ (by omega)
    have hl1 := I1.out.len
    have hcl := hcell1 j (by omega)
    obtain ⟨av, hav⟩ : ∃ av, av = l1[j]'(by omega) := ⟨_, rfl⟩
    have hab := D1.out av (by rw [hav]; exact List.getElem_mem _)
    rw [← hav] at hcl
    subst hA1 hA2
    have HROW := hq9 hrow
    have HRM := hq9 hrm
    clear hcell1 hrow hav hl1 hrm
    by_cases h64 : rm ≤ 64
    ·have p5 : decide ((64 : Int) < (rm : Int)) = false := by rw [decide_eq_false_iff_not]; omega
     have p6 : (rm : Int) ≤ 64 := by omega
     have p7 : (0 : Int) ≤ (rm : Int) := by omega
     have HLN := hq9 (fun W (o : Only [] wr W) => nvm_Lines g2 cb2 cap2 D W (HD.out.only0 o))
     rw [HL.out] at HLN
     have HL1 := hq9 (fun w => law0_Low av N w (by omega) (by omega))
     have hk : low av N < N := low_lt _ _ (by omega)
     generalize low av N = kk at *
     obtain ⟨s65, hs65⟩ : ∃ s : Nat, (65 : Int) - (rm : Int) = (s : Int) := ⟨65 - rm, by omega⟩
     have hs0 : 0 < s65 := by omega
     have hs1 : s65 ≤ 65 := by omega
     have HL2 := hq9 (show ∀ w, Calls Tryz.prog 25 #[.int .i64 (IntKind.i64.wrap (av.tdiv 64)), .int .i64 (IntKind.i64.wrap (65 - (rm : Int)))] w fun e w' => e = .returned (.int .i64 (low (av.tdiv 64) s65)) ∧ w = w' from fun w => by
      rw [IntWalk.i64_in _ (tdiv_in hab), IntWalk.i64_in _ (by omega), hs65]
      exact law0_Low (av.tdiv 64) s65 w hs0 (by omega))
     clear hs65
     generalize low (av.tdiv 64) s65 = pos at *
     go_wp2_with fail
     go_quiet ((first | (go_at_call 32; exact Calls.quiet_of_same (Calls.flip (HLN.out _ (by first | exact Only.refl _ _ | exact (Only.refl _ _).drewN _)))) | (go_at_call 25; exact Calls.quiet_of_same (Calls.flip (HL1.out _)))))
     generalize hw5 : World.drewN _ _ = w5
     have O5 := hq9 (show Only [] wr w5 by rw [← hw5]; exact (Only.refl _ _).drewN _)
     clear hw5
     have y1 : w5.cell? ⟨ab, ao + j, none⟩ = some (.int .i64 av) := by rw [cell_only O5.out (lt_of_cell hcl) (by simp)]; exact hcl
     have y2 : w5.cell? ⟨rb, ro + j, none⟩ = some (.slice ra rm rc) := by rw [cell_only O5.out (lt_of_cell hcell2) (by simp)]; exact hcell2
     clear hcl hcell2
     go_wp2_with fail
     refine wp_region_still_tail 18 (by kernel_rfl) (by kernel_rfl) ?_
     simp only [List.take_succ_cons, List.take_zero, List.drop_succ_cons, List.drop_zero]
     generalize hwd : ({ w5 with drawn := w5.drawn + 1 } : World) = wd
     have OD := hq9 (drawn_only hwd)
     clear hwd
     have z1 : wd.cell? ⟨ab, ao + j, none⟩ = some (.int .i64 av) := by rw [cell_only OD.out (lt_of_cell y1) (by simp)]; exact y1
     have z2 : wd.cell? ⟨rb, ro + j, none⟩ = some (.slice ra rm rc) := by rw [cell_only OD.out (lt_of_cell y2) (by simp)]; exact y2
     clear y1 y2
     repeat still_step
     still_call (Calls.flip (HL2.out _))
     repeat still_step
     refine wpStill_nil ?_
     go_wp2_with fail
     have OO := hq9 (O5.out.trans0 OD.out)
     refine (nvm_Store_any g2 cb2 cap2 D kk pos ra rm rc rl _ (HD.out.only0 OO.out) (HROW.out.only0 OO.out) HRM.out).mono ?_
     rintro e w6 ⟨rfl, d6, o6⟩
     have D6 := hq9 d6
     have O6 := hq9 ((ON.out.trans0 OO.out).trans o6 (fun b hb => .inr (by simp at hb; omega)))
     have C6 := hq9 (HC.out.hit kk pos rl)
     clear d6 o6 z1 z2
     go_wp2_with fail
     refine (nvm_Back_any g2 cb2 cap2 _ kk _ D6.out).mono ?_
     rintro e w7 ⟨rfl, d7, o7⟩
     have D7 := hq9 d7
     have O7 := hq9 (O6.out.trans o7 (fun b hb => .inr (by simp at hb; omega)))
     clear d7 o7
     go_wp2
     go_roundw
     ·exact ⟨j + 1, _, by simp, by omega, D7.out, C6.out.1, C6.out.2.trans HL.out, O7.out⟩
     ·simp [intOf]
      omega
    ·have p5 : decide ((64 : Int) < (rm : Int)) = true := by rw [decide_eq_true_eq]; omega
     go_wp2_with fail
     refine (top_awake _).mono ?_
     rintro e w' ⟨rfl, o⟩
     have O := hq9 (ON.out.trans0 o)
     clear o
     go_wp2
     go_ret
     exact ⟨rfl, O.out⟩
   ·have HF := hq9 hlt
    clear hlt
    by_cases hlt1 : j < n1
    ·have hlt2 : ¬ j < n2 := fun h => HF.out ⟨hlt1, h⟩
     have p1 : decide ((j : Int) < (n1 : Int)) = true := by rw [decide_eq_true_eq]; omega
     have p2 : decide ((j : Int) < (n2 : Int)) = false := by rw [decide_eq_false_iff_not]; omega
     go_wp2_with fail
     refine (top_rev g2 cb2 cap2 N D wr HD.out HL.out hN1 (by omega) HC.out).mono ?_
     rintro r w3 ⟨D3, pv, qv, rfl, d3, l3', c3', e3, hp, hq, op, oq, np, nq, o3⟩
     have e9 : revOut N (bytesAt (cutD D3 l3)) = revOut N (bytesAt D) := by rw [(c3'.cut l3).2.1]; exact e3
     have HR2 := hq9 (fun W d => top_rev g2 cb2 cap2 N (cutD D3 l3) W d ((c3'.cut l3).2.2.trans l3') hN1 (by omega) (c3'.cut l3).1)
     rw [e9] at HR2
     obtain ⟨R, hR⟩ : ∃ R, R = revOut N (bytesAt D) := ⟨_, rfl⟩
     rw [← hR] at HR2 hp hq np nq
     rw [← hR]
     clear e9 e3 hR c3' l3'
     obtain ⟨A4, x4, hA4, _, _⟩ := hp.slice
     obtain ⟨A5, x5, hA5, _, _⟩ := hq.slice
     obtain ⟨n4, hn4⟩ : ∃ n, pv = .slice A4 n x4 := ⟨_, hA4⟩
     obtain ⟨n5, hn5⟩ : ∃ n, qv = .slice A5 n x5 := ⟨_, hA5⟩
     clear hA4 hA5
     subst hn4 hn5
     have HP := hq9 hp
     have HQ := hq9 hq
     have OP := hq9 (And.intro op oq)
     have HN := hq9 (And.intro np nq)
     have D4 := hq9 d3
     have O3 := hq9 (ON.out.trans o3 (fun b hb => .inr (by simp at hb; omega)))
     have S3 := hq9 (And.intro o3.size (And.intro HD.out.lt1 HD.out.lt2))
     have OX := hq9 ((Only.refl [] w3).alloc (.cells #[.slice A4 n4 x4, .slice A5 n5 x5] 60))
     have BX := hq9 (Blk.new w3 60 #[.slice A4 n4 x4, .slice A5 n5 x5])
     have S4 := hq9 (fun (hn : 0 < n3) => sl_blocks I3.out hn)
     clear hp hq op oq np nq o3 d3
     go_wp2_with fail
     generalize (w3.alloc _) = w4 at *
     refine (nvm_Cut g2 cb2 cap2 D3 A3 n3 c3 l3 w4 (D4.out.only0 OX.out) (I3.out.only0 (O3.out.trans0 OX.out)) (by omega) (fun hn b off t e => by have := S4.out hn b off t e; omega)).mono ?_
     rintro r w5 ⟨A9, x9, rfl, _, d5, o5⟩
     have D5 := hq9 d5
     have O5 := hq9 ((O3.out.trans0 OX.out).trans o5 (fun b hb => .inr (by simp at hb; omega)))
     have B5 := hq9 (BX.out.only o5 (by have := S3.out; simp; omega))
     have P5 := hq9 ((HP.out.only0 OX.out).only o5 (fun b hb hm => by have := OP.out.1 b hb; have := S3.out; simp at hm; omega))
     have Q5 := hq9 ((HQ.out.only0 OX.out).only o5 (fun b hb hm => by have := OP.out.2 b hb; have := S3.out; simp at hm; omega))
     have S5 := hq9 (And.intro OX.out.size o5.size)
     clear d5 o5 BX OX HP HQ D4
     go_wp2_with fail
     refine (HR2.out w5 D5.out).mono ?_
     rintro r w6 ⟨D6, pv6, qv6, rfl, _, _, _, _, hp, hq, _, _, _, _, o6⟩
     obtain ⟨A6, x6, hA6, _, _⟩ := hp.slice
     obtain ⟨A7, x7, hA7, _, _⟩ := hq.slice
     obtain ⟨n6, hn6⟩ : ∃ n, pv6 = .slice A6 n x6 := ⟨_, hA6⟩
     obtain ⟨n7, hn7⟩ : ∃ n, qv6 = .slice A7 n x7 := ⟨_, hA7⟩
     clear hA6 hA7
     subst hn6 hn7
     have HP := hq9 hp
     have HQ := hq9 hq
     have O6 := hq9 (O5.out.trans o6 (fun b hb => .inr (by simp at hb; omega)))
     have B6 := hq9 (B5.out.only o6 (by have := S3.out; simp; omega))
     have P6 := hq9 (P5.out.only o6 (fun b hb hm => by have := OP.out.1 b hb; have := S3.out; simp at hm; omega))
     have Q6 := hq9 (Q5.out.only o6 (fun b hb hm => by have := OP.out.2 b hb; have := S3.out; simp at hm; omega))
     clear hp hq o6
     have OX := hq9 ((Only.refl [] w6).alloc (.cells #[.slice A6 n6 x6, .slice A7 n7 x7] 60))
     have BX := Blk.new w6 60 #[.slice A6 n6 x6, .slice A7 n7 x7]
     have BY := B6.out.only OX.out (by simp)
     have s0 := BX.cell 0
     have s1 := BX.cell 1
     have t0 := BY.cell 0
     have t1 := BY.cell 1
     have qb : (R.1 == R.1) = true := by simp
     clear BX BY
     go_wp2_with fail
     refine (law0_SameShelf _ _ _ _ R.2.pairs R.2.queue _ (P6.out.only0 OX.out) (HP.out.only0 OX.out) (Q6.out.only0 OX.out) (HQ.out.only0 OX.out) (by have := HN.out.1; omega) (by have := HN.out.2; omega)).mono ?_
     rintro e w7 ⟨rfl, o7⟩
     have O7 := hq9 ((O6.out.trans0 OX.out).trans0 o7)
     clear o7 s0 s1 t0 t1 qb
     go_wp2_with fail
     refine (top_awake _).mono ?_
     rintro e w8 ⟨rfl, o8⟩
     have O8 := hq9 (O7.out.trans0 o8)
     clear o8
     go_wp2
     go_ret
     exact ⟨rfl, O8.out⟩
    ·have p1 : decide ((j : Int) < (n1 : Int)) = false := by rw [decide_eq_false_iff_not]; omega
     go_wp2_with fail
     refine (top_rev g2 cb2 cap2 N D wr HD.out HL.out hN1 (by omega) HC.out).mono ?_
     rintro r w3 ⟨D3, pv, qv, rfl, d3, l3', c3', e3, hp, hq, op, oq, np, nq, o3⟩
     have e9 : revOut N (bytesAt (cutD D3 l3)) = revOut N (bytesAt D) := by rw [(c3'.cut l3).2.1]; exact e3
     have HR2 := hq9 (fun W d => top_rev g2 cb2 cap2 N (cutD D3 l3) W d ((c3'.cut l3).2.2.trans l3') hN1 (by omega) (c3'.cut l3).1)
     rw [e9] at HR2
     obtain ⟨R, hR⟩ : ∃ R, R = revOut N (bytesAt D) := ⟨_, rfl⟩
     rw [← hR] at HR2 hp hq np nq
     rw [← hR]
     clear e9 e3 hR c3' l3'
     obtain ⟨A4, x4, hA4, _, _⟩ := hp.slice
     obtain ⟨A5, x5, hA5, _, _⟩ := hq.slice
     obtain ⟨n4, hn4⟩ : ∃ n, pv = .slice A4 n x4 := ⟨_, hA4⟩
     obtain ⟨n5, hn5⟩ : ∃ n, qv = .slice A5 n x5 := ⟨_, hA5⟩
     clear hA4 hA5
     subst hn4 hn5
     have HP := hq9 hp
     have HQ := hq9 hq
     have OP := hq9 (And.intro op oq)
     have HN := hq9 (And.intro np nq)
     have D4 := hq9 d3
     have O3 := hq9 (ON.out.trans o3 (fun b hb => .inr (by simp at hb; omega)))
     have S3 := hq9 (And.intro o3.size (And.intro HD.out.lt1 HD.out.lt2))
     have OX := hq9 ((Only.refl [] w3).alloc (.cells #[.slice A4 n4 x4, .slice A5 n5 x5] 60))
     have BX := hq9 (Blk.new w3 60 #[.slice A4 n4 x4, .slice A5 n5 x5])
     have S4 := hq9 (fun (hn : 0 < n3) => sl_blocks I3.out hn)
     clear hp hq op oq np nq o3 d3
     go_wp2_with fail
     generalize (w3.alloc _) = w4 at *
     refine (nvm_Cut g2 cb2 cap2 D3 A3 n3 c3 l3 w4 (D4.out.only0 OX.out) (I3.out.only0 (O3.out.trans0 OX.out)) (by omega) (fun hn b off t e => by have := S4.out hn b off t e; omega)).mono ?_
     rintro r w5 ⟨A9, x9, rfl, _, d5, o5⟩
     have D5 := hq9 d5
     have O5 := hq9 ((O3.out.trans0 OX.out).trans o5 (fun b hb => .inr (by simp at hb; omega)))
     have B5 := hq9 (BX.out.only o5 (by have := S3.out; simp; omega))
     have P5 := hq9 ((HP.out.only0 OX.out).only o5 (fun b hb hm => by have := OP.out.1 b hb; have := S3.out; simp at hm; omega))
     have Q5 := hq9 ((HQ.out.only0 OX.out).only o5 (fun b hb hm => by have := OP.out.2 b hb; have := S3.out; simp at hm; omega))
     have S5 := hq9 (And.intro OX.out.size o5.size)
     clear d5 o5 BX OX HP HQ D4
     go_wp2_with fail
     refine (HR2.out w5 D5.out).mono ?_
     rintro r w6 ⟨D6, pv6, qv6, rfl, _, _, _, _, hp, hq, _, _, _, _, o6⟩
     obtain ⟨A6, x6, hA6, _, _⟩ := hp.slice
     obtain ⟨A7, x7, hA7, _, _⟩ := hq.slice
     obtain ⟨n6, hn6⟩ : ∃ n, pv6 = .slice A6 n x6 := ⟨_, hA6⟩
     obtain ⟨n7, hn7⟩ : ∃ n, qv6 = .slice A7 n x7 := ⟨_, hA7⟩
     clear hA6 hA7
     subst hn6 hn7
     have HP := hq9 hp
     have HQ := hq9 hq
     have O6 := hq9 (O5.out.trans o6 (fun b hb => .inr (by simp at hb; omega)))
     have B6 := hq9 (B5.out.only o6 (by have := S3.out; simp; omega))
     have P6 := hq9 (P5.out.only o6 (fun b hb hm => by have := OP.out.1 b hb; have := S3.out; simp at hm; omega))
     have Q6 := hq9 (Q5.out.only o6 (fun b hb hm => by have := OP.out.2 b hb; have := S3.out; simp at hm; omega))
     clear hp hq o6
     have OX := hq9 ((Only.refl [] w6).alloc (.cells #[.slice A6 n6 x6, .slice A7 n7 x7] 60))
     have BX := Blk.new w6 60 #[.slice A6 n6 x6, .slice A7 n7 x7]
     have BY := B6.out.only OX.out (by simp)
     have s0 := BX.cell 0
     have s1 := BX.cell 1
     have t0 := BY.cell 0
     have t1 := BY.cell 1
     have qb : (R.1 == R.1) = true := by simp
     clear BX BY
     go_wp2_with fail
     refine (law0_SameShelf _ _ _ _ R.2.pairs R.2.queue _ (P6.out.only0 OX.out) (HP.out.only0 OX.out) (Q6.out.only0 OX.out) (HQ.out.only0 OX.out) (by have := HN.out.1; omega) (by have := HN.out.2; omega)).mono ?_
     rintro e w7 ⟨rfl, o7⟩
     have O7 := hq9 ((O6.out.trans0 OX.out).trans0 o7)
     clear o7 s0 s1 t0 t1 qb
     go_wp2_with fail
     refine (top_awake _).mono ?_
     rintro e w8 ⟨rfl, o8⟩
     have O8 := hq9 (O7.out.trans0 o8)
     clear o8
     go_wp2
     go_ret
     exact ⟨rfl, O8.out⟩
theorem walk_TopHostile (lines : Int) (f : Bool) (A1 : Option Addr) (n1 c1 : Nat) (l1 : List Int) (A2 : Option Addr) (n2 c2 : Nat) (l2 : List Row8) (A3 : Option Addr) (n3 c3 : Nat) (l3 : List Int) (w : World) (hb : -9223372036854775808 ≤ lines ∧ lines ≤ 9223372036854775807) (i1 : Sl w A1 n1 (l1.map (.int .i64)) ∧ ∀ n ∈ l1, -9223372036854775808 ≤ n ∧ n ≤ 9223372036854775807) (_ : n1 ≤ maxLen) (i2 : Rows8 w A2 n2 l2) (_ : n2 ≤ c2) (i3 : Sl w A3 n3 (l3.map (.int .i64)) ∧ ∀ n ∈ l3, -9223372036854775808 ≤ n ∧ n ≤ 9223372036854775807) (_ : n3 ≤ maxLen) :
  Calls Tryz.prog 5 #[.int .i64 lines, .bool f, .slice A1 n1 c1, .slice A2 n2 c2, .slice A3 n3 c3] w fun e w' => e = .returned (.bool true) ∧ Only [] w w' := by
 by_cases b1 : n1 ≤ 60
 ·by_cases b2 : n2 ≤ 60
  ·by_cases b3 : n3 ≤ 60
   ·exact hostile_main lines f A1 n1 c1 l1 A2 n2 c2 l2 A3 n3 c3 l3 w hb i1.1 i1.2 i2 i3.1 b1 b2 b3
   ·exact hostile_early3 lines f A1 n1 c1 A2 n2 c2 A3 n3 c3 w b1 b2 (by omega)
  ·exact hostile_early2 lines f A1 n1 c1 A2 n2 c2 A3 n3 c3 w b1 (by omega)
 ·exact hostile_early1 lines f A1 n1 c1 A2 n2 c2 A3 n3 c3 w (by omega)
end Go.Proofs.YtlggichakafkiaaGreat
namespace Go.Proofs.YtlggichakafkiaaGreat
set_option maxRecDepth 100000
theorem joined_of {P : Program} {f : FuncId} {fn : Func} {s : ChangeSpec} {c : OpenClaim} (h2 : laidOutB P = true) (h3 : mapsRowed P = true) (h10 : (c.inPlace == P.inPlace f) = true) (h11 : (c.unfollowed == P.unfollowed f) = true) (h12 : (c.recurses == P.recurses f) = true) (h13 : (c.named == P.varsNamed f) = true) (h23 : (c.plainKeys == P.plainKeys) = true) (h25 : P.stopsHeard = true) (h26 : P.mayEnter = true) (h27 : (c.lifted == P.liftsFinal) = true)
  (h1 : c.wf (OpenSpec.ofChange s) = true) (h4 : (fn.params.all (P.readableRec ·) && namedTie P c.named s.vars) = true) (h6 : ((c.stops == []) && (P.stops == []) && (c.knobs == []) && (P.stopKnobs == [])) = true)
  (h14 : ((c.maps == (fn.params.toList ++ s.plain.varTypes P).any (P.mapsRec ·)) && (c.ifaces == (fn.params.toList ++ s.plain.varTypes P).any (P.ifacesRec ·)) && (c.mapsOut == P.mapsAmong fn.resultTypes.toList) && (c.loops == (fn.params.toList ++ s.plain.varTypes P).any (P.loopsFrom ·)) && (c.wideKeys == (fn.params.toList ++ s.plain.varTypes P ++ fn.resultTypes.toList).any (P.wideKeysFrom ·)) && s.vars.all (P.varReadable ·) && fn.resultTypes.all (fun t => P.readableRec t && decide (t < P.types.size)) && (c.ifacesOut == fn.resultTypes.toList.any (P.ifacesRec ·)) && (c.loopsOut == fn.resultTypes.toList.any (P.loopsFrom ·))) = true)
  (h24 : c.shortTexts.isNone = true) (h28 : ((P.make == some c.make) && (c.kinds == (if c.domain.isEmpty then [] else fn.params.toList.map fun t => match P.underlying t with | some (.int k) => some k | _ => none)) && (c.pinned == c.pinnedBy) && (c.veiled == (fn.params.toList ++ s.plain.varTypes P ++ fn.resultTypes.toList).any (P.veiledRec ·)) && c.veiledFits P fn.params.toList (fn.params.toList ++ s.plain.varTypes P ++ fn.resultTypes.toList)) = true) : joinedFacts P f fn s c = true := by
 unfold joinedFacts
 simp only [Bool.and_eq_true, and_assoc] at h4 h6 h14 h28 ⊢
 obtain ⟨h4, h5⟩ := h4
 obtain ⟨h6, h7, h8, h9⟩ := h6
 obtain ⟨h14, h15, h16, h17, h18, h19, h20, h21, h22⟩ := h14
 obtain ⟨h28, h29, h30, h31, h32⟩ := h28
 exact ⟨h1, h2, h3, h4, h5, h6, h7, h8, h9, h10, h11, h12, h13, h14, h15, h16, h17, h18, h19, h20, h21, h22, h23, h24, h25, h26, h27, h28, h29, h30, h31, h32⟩
theorem facts_laid : laidOutB Tryz.prog = true := by kernel_rfl
theorem facts_maps : mapsRowed Tryz.prog = true := by kernel_rfl
theorem facts_heard : Tryz.prog.stopsHeard = true := by kernel_rfl
theorem facts_may : Tryz.prog.mayEnter = true := by kernel_rfl
end Go.Proofs.YtlggichakafkiaaGreat