/- A call's beginning; which call is good. (printed by gen-ya.py) -/
import Derived.BigQuiet
import Derived.Test.YtlggichakafkiaaGreatGTopHostile1
import Derived.Test.YtlggichakafkiaaGreatGTopHostile2
import Derived.Test.YtlggichakafkiaaGreatGTopHostile3
import Derived.Test.YtlggichakafkiaaGreatGTopHostile4
import Derived.Test.YtlggichakafkiaaGreatGTopHostile5
import Derived.Test.YtlggichakafkiaaGreatGTopHostile6
import Derived.Test.YtlggichakafkiaaGreatGTopHostile7
import Derived.Test.YtlggichakafkiaaGreatGTopHostile8
import Derived.Test.YtlggichakafkiaaGreatGTopHostile9
import Derived.Test.YtlggichakafkiaaGreatGTopHostile10
set_option linter.unusedSimpArgs false
set_option linter.unusedVariables false
namespace Go.Proofs.YtlggichakafkiaaGreat
open Go.BigFrame Go.RowKit Go.Proofs.FuMem
set_option maxRecDepth 100000
def beginF (k : Int) (key val to : ByteArray) : Fr := ⟨k, key, val, to, 0, 0, ⟨#[]⟩, false, 0, false, ⟨#[]⟩, 0, 0, 0, 0, -1, 0, 0, 0, 0, false, ⟨#[]⟩, 0⟩
set_option maxHeartbeats 2000000 in
theorem ideal_Begin (k : Int) (key val to : ByteArray) (w : World) :
  Calls Tryz.prog 144 #[.agg (callC k key val to).toArray] w fun e w' => e = .returned (.agg (frC (beginF k key val to)).toArray) ∧ Only [] w w' := by
 obtain ⟨b1, b2, o2⟩ := two_new w 40 74 (callC k key val to).toArray (frC ⟨0, ⟨#[]⟩, ⟨#[]⟩, ⟨#[]⟩, 0, 0, ⟨#[]⟩, false, 0, false, ⟨#[]⟩, 0, 0, 0, 0, 0, 0, 0, 0, 0, false, ⟨#[]⟩, 0⟩).toArray
 have FOn := hq9 (frC_one (beginF k key val to))
 unfold beginF frC callC at *
 dsimp only at *
 rw [show ((0 : Nat) : Int) = 0 from rfl] at *
 have c4 := b1.cell 4
 have f4 := b1.frozen 4
 have B1 := hq9 b1
 have B2 := hq9 b2
 have O2 := hq9 o2
 clear b1 b2 o2
 go_enter Tryz.func144, Tryz.ntmps144
 go_wp2_with fail
 generalize ((w.alloc _).alloc _) = w1 at *
 refine (clone_nil_calls w1).mono ?_
 rintro r w' ⟨rfl, rfl⟩
 go_wp2_with fail
 have HSw2 := hq9 (show Blk (w1.setCell ⟨w.heap.size, 4, none⟩ (.slice none 0 0)) w.heap.size 40 #[.int .i64 k, .string key, .string val, .string to, .slice none 0 0] from B1.out.set 4 (.slice none 0 0))
 have OSw2 := hq9 (O2.out.setCell (p := ⟨w.heap.size, 4, none⟩) (.inr (Nat.le_refl _)) (.slice none 0 0))
 have HTw2 := hq9 (B2.out.only ((Only.refl [w.heap.size] w1).setCell (p := ⟨w.heap.size, 4, none⟩) (.inl (by simp)) (.slice none 0 0)) (by simp))
 generalize (w1.setCell _ _) = w2 at *
 clear c4 f4 B1 B2 O2
 have c4 : w2.cell? ⟨w.heap.size, 4, none⟩ = some (.slice none 0 0) := HSw2.out.cell 4
 go_wp2_with fail
 go_loop [12] (fun i => i = .int .i64 0) (fun _ => 0)
 case atStart => exact rfl
 case round =>
  subst hrel
  go_wp2_with (first | ((with_reducible show wpList _ _ _ (Oper.mk (some 27) _ _ _ _ _ :: _) _ _); refine wpList_load_part rfl 40 (.tmp 1) rfl w.heap.size 0 rfl 40 _ HSw2.out [.int .i64 k, .string key, .string val, .string to, .slice none 0 0] rfl _ Tryz.underlying40 rfl (by kernel_rfl) ?_) | ((with_reducible show wpList _ _ _ (Oper.mk none _ _ _ _ _ :: _) _ _); refine wpList_store_part rfl 74 (.tmp 2) (.tmp 28) rfl (w.heap.size + 1) 0 [.int .i64 k, .string key, .string val, .string to, .slice none 0 0, .int .i64 0, .int .u64 0, .string ⟨#[]⟩, .bool false, .int .i64 0, .bool false, .string ⟨#[]⟩, .int .u64 0, .int .u64 0, .int .i64 0, .int .i64 0, .int .i64 (-1), .int .i64 0, .int .i64 0, .slice none 0 0, .int .i64 0, .slice none 0 0, .int .i64 0, .bool false, .string ⟨#[]⟩, .slice none 0 0, .slice none 0 0, .int .u64 0] rfl rfl 74 _ HTw2.out #[.int .i64 k, .string key, .string val, .string to, .slice none 0 0, .int .i64 0, .int .u64 0, .string ⟨#[]⟩, .bool false, .int .i64 0, .bool false, .string ⟨#[]⟩, .int .u64 0, .int .u64 0, .int .i64 0, .int .i64 0, .int .i64 (-1), .int .i64 0, .int .i64 0, .slice none 0 0, .int .i64 0, .slice none 0 0, .int .i64 0, .bool false, .string ⟨#[]⟩, .slice none 0 0, .slice none 0 0, .int .u64 0] rfl (by simp) frInfo FOn.out ?_; intro w3 hb ho hs; have H_w3 := hq9 hb; have O_w3 := hq9 ho; clear hb ho hs))
  refine bodyPost_ret (results_cell_row rfl _ _ (w.heap.size + 1) 74 _ _ _ rfl H_w3.out Tryz.underlying74 rfl (by kernel_rfl)) rfl ⟨rfl, OSw2.out.trans O_w3.out (by simp)⟩
theorem ideal_keyed_put (w : World) : Calls Tryz.prog 407 #[.int .i64 2] w fun e w' => e = .returned (.bool true) ∧ w = w' := by
 go_enter Tryz.func407, Tryz.ntmps407
 go_wp2
 go_ret
 exact ⟨rfl, rfl⟩
def putK : ByteArray := ⟨#[97]⟩
def putV : ByteArray := ⟨#[49]⟩
def putC : List Value := callC 2 putK putV ⟨#[]⟩
theorem ideal_shape_put (w : World) : Calls Tryz.prog 383 #[.agg putC.toArray] w fun e w' => e = .returned (.bool true) ∧ Only [] w w' := by
 have B1 := Blk.new w 40 putC.toArray
 have O1 := hq9 ((Only.refl [] w).alloc (.cells putC.toArray 40))
 unfold putC callC putK putV at *
 have c0 := B1.cell 0
 have c1 := B1.cell 1
 clear B1
 go_enter Tryz.func383, Tryz.ntmps383
 go_wp2_with fail
 refine (ideal_keyed_put _).mono ?_
 rintro r w' ⟨rfl, rfl⟩
 go_wp2
 go_ret
 exact ⟨rfl, O1.out⟩
theorem ideal_long_put (w : World) : Calls Tryz.prog 384 #[.agg putC.toArray] w fun e w' => e = .returned (.bool false) ∧ Only [] w w' := by
 have B1 := Blk.new w 40 putC.toArray
 have O1 := hq9 ((Only.refl [] w).alloc (.cells putC.toArray 40))
 unfold putC callC putK putV at *
 have c0 := B1.cell 0
 have c1 := B1.cell 1
 have c2 := B1.cell 2
 clear B1
 go_enter Tryz.func384, Tryz.ntmps384
 go_wp2
 go_ret
 exact ⟨rfl, O1.out⟩
theorem ideal_Good_put (w : World) : Calls Tryz.prog 359 #[.agg putC.toArray] w fun e w' => e = .returned (.int .i64 0) ∧ Only [] w w' := by
 have B1 := hq9 (Blk.new w 40 putC.toArray)
 have O1 := hq9 ((Only.refl [] w).alloc (.cells putC.toArray 40))
 have HS := hq9 ideal_shape_put
 have HL := hq9 ideal_long_put
 unfold putC callC putK putV at *
 go_enter Tryz.func359, Tryz.ntmps359
 go_wp2_with ((with_reducible show wpList _ _ _ (Oper.mk (some 3) _ _ _ _ _ :: _) _ _); refine wpList_load_part rfl 40 (.tmp 1) rfl w.heap.size 0 rfl 40 _ B1.out [.int .i64 2, .string ⟨#[97]⟩, .string ⟨#[49]⟩, .string ⟨#[]⟩, .slice none 0 0] rfl _ Tryz.underlying40 rfl (by kernel_rfl) ?_)
 generalize (w.alloc _) = w1 at *
 refine (HS.out w1).mono ?_
 rintro r w2 ⟨rfl, o⟩
 have B2 := hq9 (B1.out.only o (by simp))
 have O2 := hq9 (O1.out.trans0 o)
 clear o B1 O1
 go_wp2_with ((with_reducible show wpList _ _ _ (Oper.mk (some 6) _ _ _ _ _ :: _) _ _); refine wpList_load_part rfl 40 (.tmp 1) rfl w.heap.size 0 rfl 40 _ B2.out [.int .i64 2, .string ⟨#[97]⟩, .string ⟨#[49]⟩, .string ⟨#[]⟩, .slice none 0 0] rfl _ Tryz.underlying40 rfl (by kernel_rfl) ?_)
 refine (HL.out w2).mono ?_
 rintro r w3 ⟨rfl, o⟩
 have O3 := hq9 (O2.out.trans0 o)
 clear o
 go_wp2
 go_ret
 exact ⟨rfl, O3.out⟩
end Go.Proofs.YtlggichakafkiaaGreat
namespace Go.Proofs.YtlggichakafkiaaGreat
open Go.BigFrame Go.RowKit Go.Maps Go.ChangeMaps Go.Proofs.FuMem
set_option maxRecDepth 100000
theorem fn_put (b clock : Nat) (es : Array MapEntry) (k : Int) (v : Value) (w : World) (hb : w.heap[b]? = some (.map es clock)) (hf : Instr.findNow (.int .i64) (.int .i64 k) es.toList 0 = some none) :
  ∃ w', (Instr.mapUpdate 132 (.map (some b)) (.int .i64 k) v).run Tryz.prog w = .ok () w' ∧ w'.heap[b]? = some (.map (es.push ⟨.int .i64 k, v, clock⟩) (clock + 1)) ∧ Only [b] w w' := by
 have hbl : b < w.heap.size := (Array.getElem?_eq_some_iff.1 hb).1
 refine ⟨setBlock w b (.map (es.push ⟨.int .i64 k, v, clock⟩) (clock + 1)), ?_, ?_, ?_⟩
 ·have hkey : MapKept.IsKey (.int .i64) (.int .i64 k) := rfl
  simp [Instr.mapUpdate, run_underlying Tryz.underlying132, MapKept.run_getObj_map hb, MapKept.run_checkKey Tryz.underlying3 hkey, MapKept.run_findKey Tryz.underlying3 hf, MapKept.run_setObj_map _ hb, Result.andThen, setBlock]
 ·simp [setBlock, hbl]
 ·refine ⟨rfl, rfl, rfl, by simp [setBlock], fun k hk hn => ?_⟩
  have : b ≠ k := fun h => hn (by simp [h])
  simp [setBlock, this]
theorem fn_look (b clock : Nat) (es : Array MapEntry) (k : Int) (v : Value) (j : Nat) (w : World) (hb : w.heap[b]? = some (.map es clock)) (hf : Instr.findNow (.int .i64) (.int .i64 k) es.toList 0 = some (some (j, v))) :
  (Instr.lookup 132 (.map (some b)) (.int .i64 k) true).run Tryz.prog w = .ok (.tuple #[v, .bool true]) w := by
 have hkey : MapKept.IsKey (.int .i64) (.int .i64 k) := rfl
 simp [Instr.lookup, run_underlying Tryz.underlying132, MapKept.run_getObj_map hb, MapKept.run_checkKey Tryz.underlying3 hkey, MapKept.run_findKey Tryz.underlying3 hf, Result.andThen]
def doingsE : List Value := [.func (.func 99) #[] #[], .func (.func 100) #[] #[], .func (.func 101) #[] #[], .func (.func 102) #[] #[], .func (.func 103) #[] #[], .func (.func 104) #[] #[]]
theorem world_doings (w : World) :
  Calls Tryz.prog 58 #[] w fun e w' => ∃ b, e = .returned (.map (some b)) ∧ (∀ k v, 1 ≤ k → doingsE[k - 1]? = some v → (Instr.lookup 132 (.map (some b)) (.int .i64 (k : Nat)) true).run Tryz.prog w' = .ok (.tuple #[v, .bool true]) w') ∧ Only [] w w' := by
 obtain ⟨w1, h1, b1, o1⟩ := fn_put w.heap.size 0 #[] 1 (.func (.func 99) #[] #[]) (w.alloc (.map #[] 0)) (by show (w.heap.push _)[w.heap.size]? = _; exact Array.getElem?_push_size) rfl
 obtain ⟨w2, h2, b2, o2⟩ := fn_put w.heap.size _ _ 2 (.func (.func 100) #[] #[]) w1 b1 rfl
 obtain ⟨w3, h3, b3, o3⟩ := fn_put w.heap.size _ _ 3 (.func (.func 101) #[] #[]) w2 b2 rfl
 obtain ⟨w4, h4, b4, o4⟩ := fn_put w.heap.size _ _ 4 (.func (.func 102) #[] #[]) w3 b3 rfl
 obtain ⟨w5, h5, b5, o5⟩ := fn_put w.heap.size _ _ 5 (.func (.func 103) #[] #[]) w4 b4 rfl
 obtain ⟨w6, h6, b6, o6⟩ := fn_put w.heap.size _ _ 6 (.func (.func 104) #[] #[]) w5 b5 rfl
 have O6 := hq9 ((((((((Only.refl [] w).alloc (.map #[] 0)).trans o1 (by simp)).trans o2 (by simp)).trans o3 (by simp)).trans o4 (by simp)).trans o5 (by simp)).trans o6 (by simp))
 have L6 := hq9 (show ∀ k v, 1 ≤ k → doingsE[k - 1]? = some v → (Instr.lookup 132 (.map (some w.heap.size)) (.int .i64 (k : Nat)) true).run Tryz.prog w6 = .ok (.tuple #[v, .bool true]) w6 from fun k v hk hv => by
  have hlt : k - 1 < 6 := (List.getElem?_eq_some_iff.1 hv).1
  rcases (show k = 1 ∨ k = 2 ∨ k = 3 ∨ k = 4 ∨ k = 5 ∨ k = 6 by omega) with rfl | rfl | rfl | rfl | rfl | rfl <;> injection hv with hv <;> subst hv
  ·exact fn_look _ _ _ 1 _ 0 w6 b6 rfl
  ·exact fn_look _ _ _ 2 _ 1 w6 b6 rfl
  ·exact fn_look _ _ _ 3 _ 2 w6 b6 rfl
  ·exact fn_look _ _ _ 4 _ 3 w6 b6 rfl
  ·exact fn_look _ _ _ 5 _ 4 w6 b6 rfl
  ·exact fn_look _ _ _ 6 _ 5 w6 b6 rfl)
 have hmk : (Instr.makeMap 132 none).run Tryz.prog w = .ok (.map (some w.heap.size)) (w.alloc (.map #[] 0)) := rfl
 clear b1 b2 b3 b4 b5 b6 o1 o2 o3 o4 o5 o6
 go_enter Tryz.func58, Tryz.ntmps58
 go_wp2
 go_ret
 exact ⟨_, rfl, L6.out, O6.out⟩
end Go.Proofs.YtlggichakafkiaaGreat
namespace Go.Proofs.YtlggichakafkiaaGreat
open Go.BigFrame Go.RowKit Go.Proofs.FuMem
set_option maxRecDepth 100000
def noF : Fr := ⟨0, ⟨#[]⟩, ⟨#[]⟩, ⟨#[]⟩, 0, 0, ⟨#[]⟩, false, 0, false, ⟨#[]⟩, 0, 0, 0, 0, 0, 0, 0, 0, 0, false, ⟨#[]⟩, 0⟩
def thrC (busy : Bool) (f : Fr) (story : Int) : List Value := .bool busy :: (frC f ++ [.int .i64 story])
structure Wd where
 lines : Int
 threads : Int
 rest : Int
 d : Nat
 a : Nat
 busy : Bool
 f : Fr
 story : Int
 steps : Int
 stores : Int
 old : Value
 st : Value
def wdC (x : Wd) : List Value := [.int .i64 x.lines, .int .i64 x.threads, .int .i64 x.rest, .pointer (some ⟨x.d, 0, none⟩), .pointer (some ⟨x.a, 0, none⟩), .pointer none, .int .i64 0, .int .i64 x.rest] ++ thrC x.busy x.f x.story ++ thrC false noF 0 ++ thrC false noF 0 ++ thrC false noF 0 ++ [.int .i64 x.steps, .int .i64 x.stores, x.old, x.st]
theorem storyInfo : ∃ i z, Tryz.prog.info? 54 = some i ∧ i.zero = some z ∧ i.size = 14 ∧ z.cells.size = 14 ∧ i.bytes ≤ 400 := ⟨_, _, rfl, rfl, rfl, rfl, by decide⟩
theorem world_thread (g : Nat) (x : Wd) (w : World) (hb : Blk w g 129 (wdC x).toArray) (ht : x.threads = 1) :
  Calls Tryz.prog 143 #[.pointer (some ⟨g, 0, none⟩), .int .i64 0] w fun e w' => e = .returned (.tuple #[.pointer (some ⟨g, 8, none⟩), .int .i64 0]) ∧ w = w' := by
 have c1 : w.cell? ⟨g, 1, none⟩ = some (.int .i64 1) := by rw [← ht]; exact hb.cell 1
 have c4 : w.cell? ⟨g, 4, none⟩ = some (.pointer (some ⟨x.a, 0, none⟩)) := hb.cell 4
 clear hb ht
 go_enter Tryz.func143, Tryz.ntmps143
 go_wp2
 go_ret2
 exact ⟨rfl, rfl⟩
def evC (k : Int) (c : List Value) : List Value := [.int .i64 k, .int .i64 0, .int .i64 0] ++ c ++ [.slice none 0 0]
def stoC (c : List Value) (an : List Value) (b e : Int) : List Value := [.int .i64 0] ++ c ++ an ++ [.int .i64 b, .int .i64 e]
theorem wd_parts (x : Wd) : (wdC x).toArray.toList.drop 9 = frC x.f ++ ([.int .i64 x.story] ++ thrC false noF 0 ++ thrC false noF 0 ++ thrC false noF 0 ++ [.int .i64 x.steps, .int .i64 x.stores, x.old, x.st]) := by
 simp [wdC, thrC]
theorem store_cells {P : Program} {W : World} {g off : Nat} {t : TypeId} {cs ds : Array Value} {vs : List Value} (hb : Blk W g t cs) (hds : cs.toList.take off ++ vs ++ cs.toList.drop (off + vs.length) = ds.toList) (hfit : off + vs.length ≤ cs.size) (h1 : vs.toArray.all (·.oneCell') = true) :
  ∃ w', (storeCells ⟨g, off, none⟩ vs).run P W = .ok () w' ∧ Blk w' g t ds ∧ Only [g] W w' ∧ w'.heap.size = W.heap.size := by
 have hst := run_storeCells_at P g off t vs 0 cs W hb (by simpa using hfit) (fun v hv => (Array.all_eq_true_iff_forall_mem.1 h1) v (by simpa using hv))
 rw [Nat.add_zero] at hst
 rw [hds] at hst
 exact ⟨_, hst, hb.row _, (Only.refl _ _).setRow (.inl (by simp)) _, by simp⟩
set_option maxHeartbeats 4000000 in
theorem world_call (g : Nat) (x : Wd) (w : World) (hb : Blk w g 129 (wdC x).toArray) (ht : x.threads = 1) (hbu : x.busy = false) (hst : x.st = .slice none 0 0) (hsp : x.steps = 0) :
  Calls Tryz.prog 99 #[.pointer (some ⟨g, 0, none⟩), .agg (evC 1 putC).toArray] w fun e w' => e = .returned (.int .i64 0) ∧ ∃ v, Blk w' g 129 (wdC { x with busy := true, f := beginF 2 putK putV ⟨#[]⟩, story := 0, st := v }).toArray ∧ RowS 54 14 w' v [stoC putC (ansC 0 false ⟨#[]⟩ 0) 1 (-1)] ∧ Only [g] w w' ∧ ∀ b, v.ownBlock = some b → w.heap.size ≤ b := by
 have HT := hq9 (fun w hb => world_thread g x w hb ht)
 have HB := hq9 hb
 have c8 : w.cell? ⟨g, 8, none⟩ = some (.bool false) := by rw [← hbu]; exact hb.cell 8
 have EV0 := Blk.new w 42 (evC 1 putC).toArray
 have OX0 := (Only.refl [] w).alloc (.cells (evC 1 putC).toArray 42)
 have HG := hb.lt
 obtain ⟨w1, hw1⟩ : ∃ w1, w1 = w.alloc (.cells (evC 1 putC).toArray 42) := ⟨_, rfl⟩
 rw [← hw1] at EV0 OX0
 have EV := hq9 EV0
 have OX := hq9 OX0
 have HW := hq9 hw1
 have e1 : (w.alloc (.cells (evC 1 putC).toArray 42)).cell? ⟨w.heap.size, 1, none⟩ = some (.int .i64 0) := by rw [← hw1]; exact EV0.cell 1
 have B1 := hq9 (HB.out.only OX0 (by simp))
 have c8 : w1.cell? ⟨g, 8, none⟩ = some (.bool false) := by rw [← hbu]; exact B1.out.cell 8
 have c131 : w1.cell? ⟨g, 131, none⟩ = some (.slice none 0 0) := by rw [← hst]; exact B1.out.cell 131
 have x3 : w1.cell? ⟨w.heap.size, 3, none⟩ = some (.int .i64 2) := EV0.cell 3
 have x4 : w1.cell? ⟨w.heap.size, 4, none⟩ = some (.string ⟨#[97]⟩) := EV0.cell 4
 have x5 : w1.cell? ⟨w.heap.size, 5, none⟩ = some (.string ⟨#[49]⟩) := EV0.cell 5
 have x6 : w1.cell? ⟨w.heap.size, 6, none⟩ = some (.string ⟨#[]⟩) := EV0.cell 6
 have x7 : w1.cell? ⟨w.heap.size, 7, none⟩ = some (.slice none 0 0) := EV0.cell 7
 have HBU := hq9 hbu
 have HST := hq9 hst
 have HSP := hq9 hsp
 have HTH := hq9 ht
 clear hb EV0 OX0 hw1 hbu hst hsp ht
 have HBG := hq9 (ideal_Begin 2 putK putV ⟨#[]⟩)
 unfold callC putK putV at HBG
 go_enter Tryz.func99, Tryz.ntmps99
 go_wp2_with fail
 rw [← HW.out]
 refine (HT.out w1 B1.out).mono ?_
 rintro r w' ⟨rfl, rfl⟩
 clear e1
 go_wp2_with fail
 have HSS := hq9 (show ∀ (W : World) (cs : Array Value), Blk W g 129 cs → cs[131]? = some (.slice none 0 0) → Blk W w.heap.size 42 (evC 1 putC).toArray → W.cell? ⟨g, 131, none⟩ = some (.slice none 0 0) ∧ W.cell? ⟨w.heap.size, 3, none⟩ = some (.int .i64 2) ∧ W.cell? ⟨w.heap.size, 4, none⟩ = some (.string ⟨#[97]⟩) ∧ W.cell? ⟨w.heap.size, 5, none⟩ = some (.string ⟨#[49]⟩) ∧ W.cell? ⟨w.heap.size, 6, none⟩ = some (.string ⟨#[]⟩) ∧ W.cell? ⟨w.heap.size, 7, none⟩ = some (.slice none 0 0) from fun W cs hb hc he => ⟨(hb.cell 131).trans hc, he.cell 3, he.cell 4, he.cell 5, he.cell 6, he.cell 7⟩)
 have F1 := hq9 (frC_one (beginF 2 ⟨#[97]⟩ ⟨#[49]⟩ ⟨#[]⟩))
 have FACT := hq9 (show ∀ w3, Only [] w1 w3 → w3.cell? ⟨g, 8, none⟩ = some (.bool false) ∧ w3.frozen? ⟨g, 8, none⟩ = false ∧ (w3.cell? ⟨g, 131, none⟩ = some (.slice none 0 0) ∧ w3.cell? ⟨w.heap.size, 3, none⟩ = some (.int .i64 2) ∧ w3.cell? ⟨w.heap.size, 4, none⟩ = some (.string ⟨#[97]⟩) ∧ w3.cell? ⟨w.heap.size, 5, none⟩ = some (.string ⟨#[49]⟩) ∧ w3.cell? ⟨w.heap.size, 6, none⟩ = some (.string ⟨#[]⟩) ∧ w3.cell? ⟨w.heap.size, 7, none⟩ = some (.slice none 0 0)) ∧ ((w3.setCell ⟨g, 8, none⟩ (.bool true)).cell? ⟨g, 131, none⟩ = some (.slice none 0 0) ∧ (w3.setCell ⟨g, 8, none⟩ (.bool true)).cell? ⟨w.heap.size, 3, none⟩ = some (.int .i64 2) ∧ (w3.setCell ⟨g, 8, none⟩ (.bool true)).cell? ⟨w.heap.size, 4, none⟩ = some (.string ⟨#[97]⟩) ∧ (w3.setCell ⟨g, 8, none⟩ (.bool true)).cell? ⟨w.heap.size, 5, none⟩ = some (.string ⟨#[49]⟩) ∧ (w3.setCell ⟨g, 8, none⟩ (.bool true)).cell? ⟨w.heap.size, 6, none⟩ = some (.string ⟨#[]⟩) ∧ (w3.setCell ⟨g, 8, none⟩ (.bool true)).cell? ⟨w.heap.size, 7, none⟩ = some (.slice none 0 0)) ∧ ∃ w4, (storeCells ⟨g, 9, none⟩ (frC (beginF 2 ⟨#[97]⟩ ⟨#[49]⟩ ⟨#[]⟩))).run Tryz.prog (w3.setCell ⟨g, 8, none⟩ (.bool true)) = .ok () w4 ∧ (w4.cell? ⟨g, 131, none⟩ = some (.slice none 0 0) ∧ w4.cell? ⟨w.heap.size, 3, none⟩ = some (.int .i64 2) ∧ w4.cell? ⟨w.heap.size, 4, none⟩ = some (.string ⟨#[97]⟩) ∧ w4.cell? ⟨w.heap.size, 5, none⟩ = some (.string ⟨#[49]⟩) ∧ w4.cell? ⟨w.heap.size, 6, none⟩ = some (.string ⟨#[]⟩) ∧ w4.cell? ⟨w.heap.size, 7, none⟩ = some (.slice none 0 0)) ∧ w4.cell? ⟨g, 37, none⟩ = some (.int .i64 x.story) ∧ w4.frozen? ⟨g, 37, none⟩ = false ∧ ((w4.setCell ⟨g, 37, none⟩ (.int .i64 0)).cell? ⟨g, 131, none⟩ = some (.slice none 0 0) ∧ (w4.setCell ⟨g, 37, none⟩ (.int .i64 0)).cell? ⟨w.heap.size, 3, none⟩ = some (.int .i64 2) ∧ (w4.setCell ⟨g, 37, none⟩ (.int .i64 0)).cell? ⟨w.heap.size, 4, none⟩ = some (.string ⟨#[97]⟩) ∧ (w4.setCell ⟨g, 37, none⟩ (.int .i64 0)).cell? ⟨w.heap.size, 5, none⟩ = some (.string ⟨#[49]⟩) ∧ (w4.setCell ⟨g, 37, none⟩ (.int .i64 0)).cell? ⟨w.heap.size, 6, none⟩ = some (.string ⟨#[]⟩) ∧ (w4.setCell ⟨g, 37, none⟩ (.int .i64 0)).cell? ⟨w.heap.size, 7, none⟩ = some (.slice none 0 0)) ∧ Blk (w4.setCell ⟨g, 37, none⟩ (.int .i64 0)) g 129 (wdC { x with busy := true, f := beginF 2 putK putV ⟨#[]⟩, story := 0 }).toArray ∧ Only [g] w (w4.setCell ⟨g, 37, none⟩ (.int .i64 0)) ∧ Blk (w4.setCell ⟨g, 37, none⟩ (.int .i64 0)) w.heap.size 42 (evC 1 putC).toArray from fun w3 o3 => by
  have B3 := B1.out.only o3 (by simp)
  have E3 := EV.out.only o3 (by simp)
  have hgw : w.heap.size ≠ g := by omega
  have o8 := (Only.refl [g] w3).setCell (p := ⟨g, 8, none⟩) (.inl (by simp)) (.bool true)
  have B8 : Blk (w3.setCell ⟨g, 8, none⟩ (.bool true)) g 129 (wdC { x with busy := true }).toArray := B3.set 8 (.bool true)
  have E8 := E3.only o8 (by simpa using hgw)
  obtain ⟨w4, hr, b4, o4, _⟩ := store_cells (P := Tryz.prog) (ds := (wdC { x with busy := true, f := beginF 2 putK putV ⟨#[]⟩ }).toArray) (vs := frC (beginF 2 ⟨#[97]⟩ ⟨#[49]⟩ ⟨#[]⟩)) (off := 9) B8 (by simp [wdC, thrC, frC, putK, putV]) (by simp [wdC, thrC, frC]) F1.out
  have E4 := E8.only o4 (by simpa using hgw)
  have o5 := (Only.refl [g] w4).setCell (p := ⟨g, 37, none⟩) (.inl (by simp)) (.int .i64 0)
  have B5 : Blk (w4.setCell ⟨g, 37, none⟩ (.int .i64 0)) g 129 (wdC { x with busy := true, f := beginF 2 putK putV ⟨#[]⟩, story := 0 }).toArray := b4.set 37 (.int .i64 0)
  have E5 := E4.only o5 (by simpa using hgw)
  have hst : x.st = .slice none 0 0 := HST.out
  have q : ∀ y : Wd, y.st = x.st → (wdC y).toArray[131]? = some (.slice none 0 0) := fun y hy => by rw [← hst, ← hy]; rfl
  exact ⟨by rw [← HBU.out]; exact B3.cell 8, B3.frozen 8, HSS.out _ _ B3 (q x rfl) E3, HSS.out _ _ B8 (q _ rfl) E8, w4, hr, HSS.out _ _ b4 (q _ rfl) E4, b4.cell 37, b4.frozen 37, HSS.out _ _ B5 (q _ rfl) E5, B5, ((((OX.out.trans0 o3).mono (T := [g]) (by simp)).trans o8 (fun b hb => .inl hb)).trans o4 (fun b hb => .inl hb)).trans o5 (fun b hb => .inl hb), E5⟩)
 go_region_held3 (fun w' => w'.cell? ⟨g, 131, none⟩ = some (.slice none 0 0) ∧ w'.cell? ⟨w.heap.size, 3, none⟩ = some (.int .i64 2) ∧ w'.cell? ⟨w.heap.size, 4, none⟩ = some (.string ⟨#[97]⟩) ∧ w'.cell? ⟨w.heap.size, 5, none⟩ = some (.string ⟨#[49]⟩) ∧ w'.cell? ⟨w.heap.size, 6, none⟩ = some (.string ⟨#[]⟩) ∧ w'.cell? ⟨w.heap.size, 7, none⟩ = some (.slice none 0 0))
  (first | assumption | exact ⟨c131, x3, x4, x5, x6, x7⟩ | exact s3 | exact s8 | exact s4 | exact s5)
  (first | (go_at_call 144; refine (HBG.out _).mono ?_; rintro r w3 ⟨rfl, o3⟩; obtain ⟨k8, z8, s3, s8, w4, hr4, s4, k37, z37, s5, b5, o5, e5⟩ := FACT.out w3 ((Only.refl [] w1).drew.trans0 o3); have B5 := hq9 b5; have O5 := hq9 o5; have E5 := hq9 e5; clear o3 b5 o5 e5))
 clear k8 z8 s3 s8 hr4 s4 k37 z37 s5 c8
 generalize (w4.setCell _ _) = w5 at *
 obtain ⟨y, hy⟩ : ∃ y : Wd, y = { x with busy := true, f := beginF 2 putK putV ⟨#[]⟩, story := 0 } := ⟨_, rfl⟩
 have HYS := hq9 (show y.st = .slice none 0 0 by rw [hy]; exact HST.out)
 have HYP := hq9 (show y.steps = 0 by rw [hy]; exact HSP.out)
 have HFIN := hq9 (show ∀ v, { x with busy := true, f := beginF 2 putK putV ⟨#[]⟩, story := 0, st := v } = { y with st := v } from fun v => by rw [hy])
 rw [← hy] at B5
 clear hy
 have HSS := hq9 (show ∀ (W : World), Blk W g 129 (wdC y).toArray → Blk W w.heap.size 42 (evC 1 putC).toArray → W.cell? ⟨g, 131, none⟩ = some (.slice none 0 0) ∧ W.cell? ⟨g, 128, none⟩ = some (.int .i64 0) ∧ W.cell? ⟨w.heap.size, 1, none⟩ = some (.int .i64 0) ∧ W.cell? ⟨w.heap.size, 3, none⟩ = some (.int .i64 2) ∧ W.cell? ⟨w.heap.size, 4, none⟩ = some (.string ⟨#[97]⟩) ∧ W.cell? ⟨w.heap.size, 5, none⟩ = some (.string ⟨#[49]⟩) ∧ W.cell? ⟨w.heap.size, 6, none⟩ = some (.string ⟨#[]⟩) ∧ W.cell? ⟨w.heap.size, 7, none⟩ = some (.slice none 0 0) from fun W hb he => ⟨by rw [← HYS.out]; exact hb.cell 131, by rw [← HYP.out]; exact hb.cell 128, he.cell 1, he.cell 3, he.cell 4, he.cell 5, he.cell 6, he.cell 7⟩)
 have HCL := hq9 (frames_Call 2 ⟨#[97]⟩ ⟨#[49]⟩ ⟨#[]⟩)
 unfold callC at HCL
 obtain ⟨c131, c128, x1, x3, x4, x5, x6, x7⟩ := HSS.out w5 B5.out E5.out
 have FACT2 := hq9 (show ∀ w6, Only [] w5 w6 → (∀ o, (w6.alloc o).cell? ⟨g, 131, none⟩ = some (.slice none 0 0)) ∧ (w6.cell? ⟨g, 131, none⟩ = some (.slice none 0 0) ∧ w6.cell? ⟨g, 128, none⟩ = some (.int .i64 0) ∧ w6.cell? ⟨w.heap.size, 1, none⟩ = some (.int .i64 0) ∧ w6.cell? ⟨w.heap.size, 3, none⟩ = some (.int .i64 2) ∧ w6.cell? ⟨w.heap.size, 4, none⟩ = some (.string ⟨#[97]⟩) ∧ w6.cell? ⟨w.heap.size, 5, none⟩ = some (.string ⟨#[49]⟩) ∧ w6.cell? ⟨w.heap.size, 6, none⟩ = some (.string ⟨#[]⟩) ∧ w6.cell? ⟨w.heap.size, 7, none⟩ = some (.slice none 0 0)) ∧ ((w6.alloc (.cells #[.int .i64 0, .int .i64 2, .string ⟨#[97]⟩, .string ⟨#[49]⟩, .string ⟨#[]⟩, .slice none 0 0, .int .i64 0, .bool false, .string ⟨#[]⟩, .slice none 0 0, .slice none 0 0, .int .u64 0, .int .i64 1, .int .i64 (-1)] 54)).cell? ⟨g, 131, none⟩ = some (.slice none 0 0) ∧ (w6.alloc (.cells #[.int .i64 0, .int .i64 2, .string ⟨#[97]⟩, .string ⟨#[49]⟩, .string ⟨#[]⟩, .slice none 0 0, .int .i64 0, .bool false, .string ⟨#[]⟩, .slice none 0 0, .slice none 0 0, .int .u64 0, .int .i64 1, .int .i64 (-1)] 54)).cell? ⟨g, 128, none⟩ = some (.int .i64 0) ∧ (w6.alloc (.cells #[.int .i64 0, .int .i64 2, .string ⟨#[97]⟩, .string ⟨#[49]⟩, .string ⟨#[]⟩, .slice none 0 0, .int .i64 0, .bool false, .string ⟨#[]⟩, .slice none 0 0, .slice none 0 0, .int .u64 0, .int .i64 1, .int .i64 (-1)] 54)).cell? ⟨w.heap.size, 1, none⟩ = some (.int .i64 0) ∧ (w6.alloc (.cells #[.int .i64 0, .int .i64 2, .string ⟨#[97]⟩, .string ⟨#[49]⟩, .string ⟨#[]⟩, .slice none 0 0, .int .i64 0, .bool false, .string ⟨#[]⟩, .slice none 0 0, .slice none 0 0, .int .u64 0, .int .i64 1, .int .i64 (-1)] 54)).cell? ⟨w.heap.size, 3, none⟩ = some (.int .i64 2) ∧ (w6.alloc (.cells #[.int .i64 0, .int .i64 2, .string ⟨#[97]⟩, .string ⟨#[49]⟩, .string ⟨#[]⟩, .slice none 0 0, .int .i64 0, .bool false, .string ⟨#[]⟩, .slice none 0 0, .slice none 0 0, .int .u64 0, .int .i64 1, .int .i64 (-1)] 54)).cell? ⟨w.heap.size, 4, none⟩ = some (.string ⟨#[97]⟩) ∧ (w6.alloc (.cells #[.int .i64 0, .int .i64 2, .string ⟨#[97]⟩, .string ⟨#[49]⟩, .string ⟨#[]⟩, .slice none 0 0, .int .i64 0, .bool false, .string ⟨#[]⟩, .slice none 0 0, .slice none 0 0, .int .u64 0, .int .i64 1, .int .i64 (-1)] 54)).cell? ⟨w.heap.size, 5, none⟩ = some (.string ⟨#[49]⟩) ∧ (w6.alloc (.cells #[.int .i64 0, .int .i64 2, .string ⟨#[97]⟩, .string ⟨#[49]⟩, .string ⟨#[]⟩, .slice none 0 0, .int .i64 0, .bool false, .string ⟨#[]⟩, .slice none 0 0, .slice none 0 0, .int .u64 0, .int .i64 1, .int .i64 (-1)] 54)).cell? ⟨w.heap.size, 6, none⟩ = some (.string ⟨#[]⟩) ∧ (w6.alloc (.cells #[.int .i64 0, .int .i64 2, .string ⟨#[97]⟩, .string ⟨#[49]⟩, .string ⟨#[]⟩, .slice none 0 0, .int .i64 0, .bool false, .string ⟨#[]⟩, .slice none 0 0, .slice none 0 0, .int .u64 0, .int .i64 1, .int .i64 (-1)] 54)).cell? ⟨w.heap.size, 7, none⟩ = some (.slice none 0 0)) ∧ ∃ A n c w7, (Builtin.append_ #[45, 45] 45 #[.slice none 0 0, .slice (some ⟨w6.heap.size, 0, none⟩) 1 1]).run Tryz.prog (w6.alloc (.cells #[.int .i64 0, .int .i64 2, .string ⟨#[97]⟩, .string ⟨#[49]⟩, .string ⟨#[]⟩, .slice none 0 0, .int .i64 0, .bool false, .string ⟨#[]⟩, .slice none 0 0, .slice none 0 0, .int .u64 0, .int .i64 1, .int .i64 (-1)] 54)) = .ok (.slice A n c) w7 ∧ (w7.cell? ⟨g, 131, none⟩ = some (.slice none 0 0) ∧ w7.cell? ⟨g, 128, none⟩ = some (.int .i64 0) ∧ w7.cell? ⟨w.heap.size, 1, none⟩ = some (.int .i64 0) ∧ w7.cell? ⟨w.heap.size, 3, none⟩ = some (.int .i64 2) ∧ w7.cell? ⟨w.heap.size, 4, none⟩ = some (.string ⟨#[97]⟩) ∧ w7.cell? ⟨w.heap.size, 5, none⟩ = some (.string ⟨#[49]⟩) ∧ w7.cell? ⟨w.heap.size, 6, none⟩ = some (.string ⟨#[]⟩) ∧ w7.cell? ⟨w.heap.size, 7, none⟩ = some (.slice none 0 0)) ∧ ((w7.setCell ⟨g, 131, none⟩ (.slice A n c)).cell? ⟨g, 128, none⟩ = some (.int .i64 0) ∧ (w7.setCell ⟨g, 131, none⟩ (.slice A n c)).cell? ⟨w.heap.size, 1, none⟩ = some (.int .i64 0) ∧ (w7.setCell ⟨g, 131, none⟩ (.slice A n c)).cell? ⟨w.heap.size, 3, none⟩ = some (.int .i64 2) ∧ (w7.setCell ⟨g, 131, none⟩ (.slice A n c)).cell? ⟨w.heap.size, 4, none⟩ = some (.string ⟨#[97]⟩) ∧ (w7.setCell ⟨g, 131, none⟩ (.slice A n c)).cell? ⟨w.heap.size, 5, none⟩ = some (.string ⟨#[49]⟩) ∧ (w7.setCell ⟨g, 131, none⟩ (.slice A n c)).cell? ⟨w.heap.size, 6, none⟩ = some (.string ⟨#[]⟩) ∧ (w7.setCell ⟨g, 131, none⟩ (.slice A n c)).cell? ⟨w.heap.size, 7, none⟩ = some (.slice none 0 0)) ∧ w7.frozen? ⟨g, 131, none⟩ = false ∧ Blk (w7.setCell ⟨g, 131, none⟩ (.slice A n c)) g 129 (wdC { y with st := .slice A n c }).toArray ∧ RowS 54 14 (w7.setCell ⟨g, 131, none⟩ (.slice A n c)) (.slice A n c) [stoC putC (ansC 0 false ⟨#[]⟩ 0) 1 (-1)] ∧ Only [g] w (w7.setCell ⟨g, 131, none⟩ (.slice A n c)) ∧ (∀ b, (Value.slice A n c).ownBlock = some b → w.heap.size ≤ b) from fun w6 o6 => by
  have B6 := B5.out.only o6 (by simp)
  have E6 := E5.out.only o6 (by simp)
  have oa := (Only.refl [] w6).alloc (.cells #[.int .i64 0, .int .i64 2, .string ⟨#[97]⟩, .string ⟨#[49]⟩, .string ⟨#[]⟩, .slice none 0 0, .int .i64 0, .bool false, .string ⟨#[]⟩, .slice none 0 0, .slice none 0 0, .int .u64 0, .int .i64 1, .int .i64 (-1)] 54)
  have B7 := B6.only oa (by simp)
  have E7 := E6.only oa (by simp)
  obtain ⟨i, z, hi, hz, hs, hzs, hby⟩ := storyInfo
  obtain ⟨v, w7, hr, hrow, o7, hown⟩ := (RowS.nil 54 14 (w6.alloc (.cells #[.int .i64 0, .int .i64 2, .string ⟨#[97]⟩, .string ⟨#[49]⟩, .string ⟨#[]⟩, .slice none 0 0, .int .i64 0, .bool false, .string ⟨#[]⟩, .slice none 0 0, .slice none 0 0, .int .u64 0, .int .i64 1, .int .i64 (-1)] 54))).push (P := Tryz.prog) 45 45 i z i.bytes Tryz.underlying45 hi hz hs rfl hzs (by decide) (some ⟨w6.heap.size, 0, none⟩) 1 (stoC putC (ansC 0 false ⟨#[]⟩ 0) 1 (-1)) (Sl.of_blk (Blk.new w6 54 #[.int .i64 0, .int .i64 2, .string ⟨#[97]⟩, .string ⟨#[49]⟩, .string ⟨#[]⟩, .slice none 0 0, .int .i64 0, .bool false, .string ⟨#[]⟩, .slice none 0 0, .slice none 0 0, .int .u64 0, .int .i64 1, .int .i64 (-1)]) 0 rfl (by simp)) (by intro u hu; simp [stoC, putC, callC, ansC] at hu; rcases hu with rfl | rfl | rfl | rfl | rfl | rfl | rfl | rfl | rfl | rfl | rfl | rfl | rfl | rfl <;> rfl) (by decide) (by simp; omega)
  obtain ⟨A, c, hv, _, _⟩ := hrow.slice
  subst hv
  have o7' : Only [] (w6.alloc (.cells #[.int .i64 0, .int .i64 2, .string ⟨#[97]⟩, .string ⟨#[49]⟩, .string ⟨#[]⟩, .slice none 0 0, .int .i64 0, .bool false, .string ⟨#[]⟩, .slice none 0 0, .slice none 0 0, .int .u64 0, .int .i64 1, .int .i64 (-1)] 54)) w7 := o7
  have B8 := B7.only o7' (by simp)
  have E8 := E7.only o7' (by simp)
  have own : ∀ b, (Value.slice A _ c).ownBlock = some b → w.heap.size ≤ b ∧ b ≠ g := fun b hb => by
   have h1 : w.heap.size ≤ w6.heap.size := Nat.le_trans (Nat.le_trans O5.out.size o6.size) (Nat.le_refl _)
   have h2 : w6.heap.size ≤ (w6.alloc (.cells #[.int .i64 0, .int .i64 2, .string ⟨#[97]⟩, .string ⟨#[49]⟩, .string ⟨#[]⟩, .slice none 0 0, .int .i64 0, .bool false, .string ⟨#[]⟩, .slice none 0 0, .slice none 0 0, .int .u64 0, .int .i64 1, .int .i64 (-1)] 54)).heap.size := oa.size
   rcases hown with h | h
   ·rw [h] at hb; cases hb
   ·rw [h] at hb
    have := Option.some.inj hb
    omega
  have os := (Only.refl [g] w7).setCell (p := ⟨g, 131, none⟩) (.inl (by simp)) (.slice A ([] ++ [stoC putC (ansC 0 false ⟨#[]⟩ 0) 1 (-1)]).length c)
  have B9 : Blk (w7.setCell ⟨g, 131, none⟩ (.slice A ([] ++ [stoC putC (ansC 0 false ⟨#[]⟩ 0) 1 (-1)]).length c)) g 129 (wdC { y with st := .slice A ([] ++ [stoC putC (ansC 0 false ⟨#[]⟩ 0) 1 (-1)]).length c }).toArray := B8.set 131 _
  have E9 := E8.only os (by simp; omega)
  have h131 := (HSS.out _ B6 E6).1
  exact ⟨fun o => (World.cell?_alloc_some w6 _ o (by rw [h131]; rfl)).trans h131, HSS.out _ B6 E6, HSS.out _ B7 E7, A, _, c, w7, hr, HSS.out _ B8 E8, ⟨(B9.cell 128).trans (by rw [← HYP.out]; rfl), E9.cell 1, E9.cell 3, E9.cell 4, E9.cell 5, E9.cell 6, E9.cell 7⟩, B8.frozen 131, B8.set 131 _, hrow.only os (fun b hb h => by simp at h; exact (own b hb).2 h), (((O5.out.trans0 o6).trans0 oa).trans0 o7').trans os (fun b hb => .inl hb), fun b hb => (own b hb).1⟩)
 go_wp2_with fail
 have HRG := hq9 (show ∀ W : World, (W.cell? ⟨g, 128, none⟩ = some (.int .i64 0) ∧ W.cell? ⟨w.heap.size, 1, none⟩ = some (.int .i64 0) ∧ W.cell? ⟨w.heap.size, 3, none⟩ = some (.int .i64 2) ∧ W.cell? ⟨w.heap.size, 4, none⟩ = some (.string ⟨#[97]⟩) ∧ W.cell? ⟨w.heap.size, 5, none⟩ = some (.string ⟨#[49]⟩) ∧ W.cell? ⟨w.heap.size, 6, none⟩ = some (.string ⟨#[]⟩) ∧ W.cell? ⟨w.heap.size, 7, none⟩ = some (.slice none 0 0)) → (W.cell? ⟨g, 128, none⟩ = some (.int .i64 0) ∧ W.cell? ⟨w.heap.size, 1, none⟩ = some (.int .i64 0) ∧ W.rangeAt w.heap.size 3 [.int .i64 2, .string ⟨#[97]⟩, .string ⟨#[49]⟩, .string ⟨#[]⟩, .slice none 0 0]) from fun W ⟨h1, h2, h3, h4, h5, h6, h7⟩ => ⟨h1, h2, fun j v hj => by
  rcases j with _ | _ | _ | _ | _ | j
  ·injection hj with hj; subst hj; exact h3
  ·injection hj with hj; subst hj; exact h4
  ·injection hj with hj; subst hj; exact h5
  ·injection hj with hj; subst hj; exact h6
  ·injection hj with hj; subst hj; exact h7
  ·simp at hj⟩)
 have s0 := HRG.out w5.drew ⟨c128, x1, x3, x4, x5, x6, x7⟩
 have c131d : w5.drew.cell? ⟨g, 131, none⟩ = some (.slice none 0 0) := c131
 clear c131 c128 x1 x3 x4 x5 x6 x7
 refine wp_region_noPanic ?_
 refine wp_region_held_drew (S := fun W => W.cell? ⟨g, 128, none⟩ = some (.int .i64 0) ∧ W.cell? ⟨w.heap.size, 1, none⟩ = some (.int .i64 0) ∧ W.rangeAt w.heap.size 3 [.int .i64 2, .string ⟨#[97]⟩, .string ⟨#[49]⟩, .string ⟨#[]⟩, .slice none 0 0]) (by kernel_rfl) s0 (fun hHeld => ?_)
 refine wpAnyH_take (i := 0) (oi := ⟨_, _, _, _, _, _⟩) (v := ?_) rfl (by kernel_rfl) (by kernel_rfl) (by kernel_rfl) (fun _ _ _ h => h) (Or.inl ⟨by rfl, ?_⟩) hHeld ?_
 rotate_left 1
 (intro w hSw; (try dsimp only at hSw); go_simp)
 (try with_reducible rfl)
 (try simp only [Act.put, List.setIfInBounds_toArray, List.set_cons_zero, List.set_cons_succ])
 refine wpAnyH_take (i := 1) (oi := ⟨_, _, _, _, _, _⟩) (v := ?_) rfl (by kernel_rfl) (by kernel_rfl) (by kernel_rfl) (fun _ _ _ h => h) (Or.inl ⟨by rfl, ?_⟩) hHeld ?_
 rotate_left 1
 (intro w hSw; (try dsimp only at hSw); go_simp)
 (try with_reducible rfl)
 (try simp only [Act.put, List.setIfInBounds_toArray, List.set_cons_zero, List.set_cons_succ])
 refine wpAnyH_take (i := 2) (oi := ⟨_, _, _, _, _, _⟩) (v := ?_) rfl (by kernel_rfl) (by kernel_rfl) (by kernel_rfl) (fun _ _ _ h => h) (Or.inl ⟨by rfl, ?_⟩) hHeld ?_
 rotate_left 1
 (intro w hSw; (try dsimp only at hSw); go_simp)
 (try with_reducible rfl)
 (try simp only [Act.put, List.setIfInBounds_toArray, List.set_cons_zero, List.set_cons_succ])
 refine wpAnyH_take (i := 3) (oi := ⟨_, _, _, _, _, _⟩) (v := ?_) rfl (by kernel_rfl) (by kernel_rfl) (by kernel_rfl) (fun _ _ _ h => h) (Or.inl ⟨by rfl, ?_⟩) hHeld ?_
 rotate_left 1
 (intro w hSw; (try dsimp only at hSw); go_simp)
 (try with_reducible rfl)
 (try simp only [Act.put, List.setIfInBounds_toArray, List.set_cons_zero, List.set_cons_succ])
 refine wpAnyH_take (i := 5) (oi := ⟨_, _, _, _, _, _⟩) (v := ?_) rfl (by kernel_rfl) (by kernel_rfl) (by kernel_rfl) (fun _ _ _ h => h) (Or.inl ⟨by rfl, ?_⟩) hHeld ?_
 rotate_left 1
 (intro w hSw; (try dsimp only at hSw); go_simp)
 (try with_reducible rfl)
 (try simp only [Act.put, List.setIfInBounds_toArray, List.set_cons_zero, List.set_cons_succ])
 refine wpAnyH_take (i := 6) (oi := ⟨_, _, _, _, _, _⟩) (v := ?_) rfl (by kernel_rfl) (by kernel_rfl) (by kernel_rfl) (fun _ _ _ h => h) (Or.inl ⟨by rfl, ?_⟩) hHeld ?_
 rotate_left 1
 (intro w hSw; (try dsimp only at hSw); go_simp)
 (try with_reducible rfl)
 (try simp only [Act.put, List.setIfInBounds_toArray, List.set_cons_zero, List.set_cons_succ])
 refine wpAnyH_take (i := 7) (oi := ⟨_, _, _, _, _, _⟩) (v := ?_) rfl (by kernel_rfl) (by kernel_rfl) (by kernel_rfl) (fun _ _ _ h => h) (Or.inl ⟨by rfl, ?_⟩) hHeld ?_
 rotate_left 1
 (intro w hSw; (try dsimp only at hSw); go_simp)
 (try with_reducible rfl)
 (try simp only [Act.put, List.setIfInBounds_toArray, List.set_cons_zero, List.set_cons_succ])
 refine wpAnyH_take (i := 8) (oi := ⟨_, _, _, _, _, _⟩) (v := _) rfl (by kernel_rfl) (by kernel_rfl) (by kernel_rfl) (fun _ _ _ h => h) (yieldsIf_load_mid (by rfl) 40 (.tmp 45) rfl w.heap.size 3 rfl [.int .i64 2, .string ⟨#[97]⟩, .string ⟨#[49]⟩, .string ⟨#[]⟩, .slice none 0 0] _ (fun w h => h.2.2) Tryz.underlying40 rfl (by kernel_rfl)) hHeld ?_
 (try simp only [Act.put, List.setIfInBounds_toArray, List.set_cons_zero, List.set_cons_succ])
 refine wpAnyH_take (i := 10) (oi := ⟨_, _, _, _, _, _⟩) (v := ?_) rfl (by kernel_rfl) (by kernel_rfl) (by kernel_rfl) (fun _ _ _ h => h) (Or.inl ⟨by rfl, ?_⟩) hHeld ?_
 rotate_left 1
 (intro w hSw; (try dsimp only at hSw); go_simp)
 (try with_reducible rfl)
 (try simp only [Act.put, List.setIfInBounds_toArray, List.set_cons_zero, List.set_cons_succ])
 refine wpAnyH_take (i := 11) (oi := ⟨_, _, _, _, _, _⟩) (v := ?_) rfl (by kernel_rfl) (by kernel_rfl) (by kernel_rfl) (fun _ _ _ h => h) (Or.inl ⟨by rfl, ?_⟩) hHeld ?_
 rotate_left 1
 (intro w hSw; (try dsimp only at hSw); go_simp)
 (try with_reducible rfl)
 (try simp only [Act.put, List.setIfInBounds_toArray, List.set_cons_zero, List.set_cons_succ])
 refine wpAnyH_take (i := 12) (oi := ⟨_, _, _, _, _, _⟩) (v := ?_) rfl (by kernel_rfl) (by kernel_rfl) (by kernel_rfl) (fun _ _ _ h => h) (Or.inl ⟨by rfl, ?_⟩) hHeld ?_
 rotate_left 1
 (intro w hSw; (try dsimp only at hSw); go_simp)
 (try with_reducible rfl)
 (try simp only [Act.put, List.setIfInBounds_toArray, List.set_cons_zero, List.set_cons_succ])
 refine wpAnyH_take (i := 13) (oi := ⟨_, _, _, _, _, _⟩) (v := ?_) rfl (by kernel_rfl) (by kernel_rfl) (by kernel_rfl) (fun _ _ _ h => h) (Or.inl ⟨by rfl, ?_⟩) hHeld ?_
 rotate_left 1
 (intro w hSw; (try dsimp only at hSw); go_simp)
 (try with_reducible rfl)
 (try simp only [Act.put, List.setIfInBounds_toArray, List.set_cons_zero, List.set_cons_succ])
 refine wpAnyH_take (i := 14) (oi := ⟨_, _, _, _, _, _⟩) (v := ?_) rfl (by kernel_rfl) (by kernel_rfl) (by kernel_rfl) (fun _ _ _ h => h) (Or.inl ⟨by rfl, ?_⟩) hHeld ?_
 rotate_left 1
 (intro w hSw; (try dsimp only at hSw); go_simp)
 (try with_reducible rfl)
 (try simp only [Act.put, List.setIfInBounds_toArray, List.set_cons_zero, List.set_cons_succ])
 refine wpAnyH_ready (rs := [4, 9]) (by kernel_rfl) (by simp) ?_
 refine AllReadyH.cons (o := ⟨_, _, _, _, _, _⟩) rfl (fun K hK => ?_) (AllReadyH.cons (o := ⟨_, _, _, _, _, _⟩) rfl (fun K hK => ?_) AllReadyH.nil)
 ·go_simp
  refine hK.out _ _ (s0) (fun hHeld => ?_)
  clear hK K
  (try simp only [Act.put, List.setIfInBounds_toArray, List.set_cons_zero, List.set_cons_succ])
  refine wpAnyH_ready (rs := [9]) (by kernel_rfl) (by simp) ?_
  refine AllReadyH.cons (o := ⟨_, _, _, _, _, _⟩) rfl (fun K hK => ?_) AllReadyH.nil
  go_simp
  refine (HCL.out _).mono ?_
  rintro r w6 ⟨rfl, o6⟩
  obtain ⟨n6, ⟨k6, s6⟩, ⟨k7, s7⟩, A, n, c, w7, hr7, ⟨k8, s8⟩, s9, z131, b8, r8, o8, own⟩ := FACT2.out w6 ((Only.refl [] w5).drew.trans0 o6)
  have B8 := hq9 b8
  have R8 := hq9 r8
  have O8 := hq9 o8
  have OWN := hq9 own
  clear o6 b8 r8 o8 own
  go_wp2_with fail
  refine hK.out _ _ (HRG.out _ s6) (fun hHeld => ?_)
  clear hK K
  (try simp only [Act.put, List.setIfInBounds_toArray, List.set_cons_zero, List.set_cons_succ])
  refine wpAnyH_take (i := 15) (oi := ⟨_, _, _, _, _, _⟩) (v := ?_) rfl (by kernel_rfl) (by kernel_rfl) (by kernel_rfl) (fun _ _ _ h => h) (Or.inl ⟨by rfl, ?_⟩) hHeld ?_
  rotate_left 1
  (intro w hSw; (try dsimp only at hSw); go_simp)
  (try with_reducible rfl)
  (try simp only [Act.put, List.setIfInBounds_toArray, List.set_cons_zero, List.set_cons_succ])
  refine wpAnyH_ready (rs := [16]) (by kernel_rfl) (by simp) ?_
  refine AllReadyH.cons (o := ⟨_, _, _, _, _, _⟩) rfl (fun K hK => ?_) AllReadyH.nil
  go_simp
  refine hK.out _ _ (HRG.out _ s7) (fun hHeld => ?_)
  clear hK K
  (try simp only [Act.put, List.setIfInBounds_toArray, List.set_cons_zero, List.set_cons_succ])
  refine wpAnyH_ready (rs := [17]) (by kernel_rfl) (by simp) ?_
  refine AllReadyH.cons (o := ⟨_, _, _, _, _, _⟩) rfl (fun K hK => ?_) AllReadyH.nil
  rw [if_pos (by rfl)]
  refine wp_append_run (.tmp 42) (.tmp 54) 45 rfl _ _ rfl rfl _ _ hr7 ?_
  refine hK.out _ _ (HRG.out _ s8) (fun hHeld => ?_)
  clear hK K
  (try simp only [Act.put, List.setIfInBounds_toArray, List.set_cons_zero, List.set_cons_succ])
  refine wpAnyH_take (i := 18) (oi := ⟨_, _, _, _, _, _⟩) (v := ?_) rfl (by kernel_rfl) (by kernel_rfl) (by kernel_rfl) (fun _ _ _ h => h) (Or.inl ⟨by rfl, ?_⟩) hHeld ?_
  rotate_left 1
  (intro w hSw; (try dsimp only at hSw); go_simp)
  (try with_reducible rfl)
  (try simp only [Act.put, List.setIfInBounds_toArray, List.set_cons_zero, List.set_cons_succ])
  refine wpAnyH_take (i := 19) (oi := ⟨_, _, _, _, _, _⟩) (v := ?_) rfl (by kernel_rfl) (by kernel_rfl) (by kernel_rfl) (fun _ _ _ h => h) (Or.inl ⟨by rfl, ?_⟩) hHeld ?_
  rotate_left 1
  (intro w hSw; (try dsimp only at hSw); go_simp)
  (try with_reducible rfl)
  (try simp only [Act.put, List.setIfInBounds_toArray, List.set_cons_zero, List.set_cons_succ])
  refine wpAnyH_ready (rs := [20]) (by kernel_rfl) (by simp) ?_
  refine AllReadyH.cons (o := ⟨_, _, _, _, _, _⟩) rfl (fun K hK => ?_) AllReadyH.nil
  go_simp
  refine hK.out _ _ (HRG.out _ s9) (fun hHeld => ?_)
  clear hK K
  (try simp only [Act.put, List.setIfInBounds_toArray, List.set_cons_zero, List.set_cons_succ])
  refine wpAnyH_done (by kernel_rfl) ?_ _
  refine NoPanic.normal ?_
  (try simp only [Act.put, List.setIfInBounds_toArray, List.set_cons_zero, List.set_cons_succ])
  go_wp2
  go_ret
  exact ⟨rfl, .slice A n c, by rw [HFIN.out]; exact B8.out, R8.out, O8.out, OWN.out⟩
 ·go_simp
  refine (HCL.out _).mono ?_
  rintro r w6 ⟨rfl, o6⟩
  obtain ⟨n6, ⟨k6, s6⟩, ⟨k7, s7⟩, A, n, c, w7, hr7, ⟨k8, s8⟩, s9, z131, b8, r8, o8, own⟩ := FACT2.out w6 ((Only.refl [] w5).drew.trans0 o6)
  have B8 := hq9 b8
  have R8 := hq9 r8
  have O8 := hq9 o8
  have OWN := hq9 own
  clear o6 b8 r8 o8 own
  go_wp2_with fail
  refine hK.out _ _ (HRG.out _ s6) (fun hHeld => ?_)
  clear hK K
  (try simp only [Act.put, List.setIfInBounds_toArray, List.set_cons_zero, List.set_cons_succ])
  refine wpAnyH_take (i := 15) (oi := ⟨_, _, _, _, _, _⟩) (v := ?_) rfl (by kernel_rfl) (by kernel_rfl) (by kernel_rfl) (fun _ _ _ h => h) (Or.inl ⟨by rfl, ?_⟩) hHeld ?_
  rotate_left 1
  (intro w hSw; (try dsimp only at hSw); go_simp)
  (try with_reducible rfl)
  (try simp only [Act.put, List.setIfInBounds_toArray, List.set_cons_zero, List.set_cons_succ])
  refine wpAnyH_ready (rs := [4, 16]) (by kernel_rfl) (by simp) ?_
  refine AllReadyH.cons (o := ⟨_, _, _, _, _, _⟩) rfl (fun K hK => ?_) (AllReadyH.cons (o := ⟨_, _, _, _, _, _⟩) rfl (fun K hK => ?_) AllReadyH.nil)
  ·go_simp
   refine hK.out _ _ (HRG.out _ s6) (fun hHeld => ?_)
   clear hK K
   (try simp only [Act.put, List.setIfInBounds_toArray, List.set_cons_zero, List.set_cons_succ])
   refine wpAnyH_ready (rs := [16]) (by kernel_rfl) (by simp) ?_
   refine AllReadyH.cons (o := ⟨_, _, _, _, _, _⟩) rfl (fun K hK => ?_) AllReadyH.nil
   go_simp
   refine hK.out _ _ (HRG.out _ s7) (fun hHeld => ?_)
   clear hK K
   (try simp only [Act.put, List.setIfInBounds_toArray, List.set_cons_zero, List.set_cons_succ])
   refine wpAnyH_ready (rs := [17]) (by kernel_rfl) (by simp) ?_
   refine AllReadyH.cons (o := ⟨_, _, _, _, _, _⟩) rfl (fun K hK => ?_) AllReadyH.nil
   rw [if_pos (by rfl)]
   refine wp_append_run (.tmp 42) (.tmp 54) 45 rfl _ _ rfl rfl _ _ hr7 ?_
   refine hK.out _ _ (HRG.out _ s8) (fun hHeld => ?_)
   clear hK K
   (try simp only [Act.put, List.setIfInBounds_toArray, List.set_cons_zero, List.set_cons_succ])
   refine wpAnyH_take (i := 18) (oi := ⟨_, _, _, _, _, _⟩) (v := ?_) rfl (by kernel_rfl) (by kernel_rfl) (by kernel_rfl) (fun _ _ _ h => h) (Or.inl ⟨by rfl, ?_⟩) hHeld ?_
   rotate_left 1
   (intro w hSw; (try dsimp only at hSw); go_simp)
   (try with_reducible rfl)
   (try simp only [Act.put, List.setIfInBounds_toArray, List.set_cons_zero, List.set_cons_succ])
   refine wpAnyH_take (i := 19) (oi := ⟨_, _, _, _, _, _⟩) (v := ?_) rfl (by kernel_rfl) (by kernel_rfl) (by kernel_rfl) (fun _ _ _ h => h) (Or.inl ⟨by rfl, ?_⟩) hHeld ?_
   rotate_left 1
   (intro w hSw; (try dsimp only at hSw); go_simp)
   (try with_reducible rfl)
   (try simp only [Act.put, List.setIfInBounds_toArray, List.set_cons_zero, List.set_cons_succ])
   refine wpAnyH_ready (rs := [20]) (by kernel_rfl) (by simp) ?_
   refine AllReadyH.cons (o := ⟨_, _, _, _, _, _⟩) rfl (fun K hK => ?_) AllReadyH.nil
   go_simp
   refine hK.out _ _ (HRG.out _ s9) (fun hHeld => ?_)
   clear hK K
   (try simp only [Act.put, List.setIfInBounds_toArray, List.set_cons_zero, List.set_cons_succ])
   refine wpAnyH_done (by kernel_rfl) ?_ _
   refine NoPanic.normal ?_
   (try simp only [Act.put, List.setIfInBounds_toArray, List.set_cons_zero, List.set_cons_succ])
   go_wp2
   go_ret
   exact ⟨rfl, .slice A n c, by rw [HFIN.out]; exact B8.out, R8.out, O8.out, OWN.out⟩
  ·go_simp
   refine hK.out _ _ (HRG.out _ s7) (fun hHeld => ?_)
   clear hK K
   (try simp only [Act.put, List.setIfInBounds_toArray, List.set_cons_zero, List.set_cons_succ])
   refine wpAnyH_ready (rs := [4]) (by kernel_rfl) (by simp) ?_
   refine AllReadyH.cons (o := ⟨_, _, _, _, _, _⟩) rfl (fun K hK => ?_) AllReadyH.nil
   go_simp
   refine hK.out _ _ (HRG.out _ s7) (fun hHeld => ?_)
   clear hK K
   (try simp only [Act.put, List.setIfInBounds_toArray, List.set_cons_zero, List.set_cons_succ])
   refine wpAnyH_ready (rs := [17]) (by kernel_rfl) (by simp) ?_
   refine AllReadyH.cons (o := ⟨_, _, _, _, _, _⟩) rfl (fun K hK => ?_) AllReadyH.nil
   rw [if_pos (by rfl)]
   refine wp_append_run (.tmp 42) (.tmp 54) 45 rfl _ _ rfl rfl _ _ hr7 ?_
   refine hK.out _ _ (HRG.out _ s8) (fun hHeld => ?_)
   clear hK K
   (try simp only [Act.put, List.setIfInBounds_toArray, List.set_cons_zero, List.set_cons_succ])
   refine wpAnyH_take (i := 18) (oi := ⟨_, _, _, _, _, _⟩) (v := ?_) rfl (by kernel_rfl) (by kernel_rfl) (by kernel_rfl) (fun _ _ _ h => h) (Or.inl ⟨by rfl, ?_⟩) hHeld ?_
   rotate_left 1
   (intro w hSw; (try dsimp only at hSw); go_simp)
   (try with_reducible rfl)
   (try simp only [Act.put, List.setIfInBounds_toArray, List.set_cons_zero, List.set_cons_succ])
   refine wpAnyH_take (i := 19) (oi := ⟨_, _, _, _, _, _⟩) (v := ?_) rfl (by kernel_rfl) (by kernel_rfl) (by kernel_rfl) (fun _ _ _ h => h) (Or.inl ⟨by rfl, ?_⟩) hHeld ?_
   rotate_left 1
   (intro w hSw; (try dsimp only at hSw); go_simp)
   (try with_reducible rfl)
   (try simp only [Act.put, List.setIfInBounds_toArray, List.set_cons_zero, List.set_cons_succ])
   refine wpAnyH_ready (rs := [20]) (by kernel_rfl) (by simp) ?_
   refine AllReadyH.cons (o := ⟨_, _, _, _, _, _⟩) rfl (fun K hK => ?_) AllReadyH.nil
   go_simp
   refine hK.out _ _ (HRG.out _ s9) (fun hHeld => ?_)
   clear hK K
   (try simp only [Act.put, List.setIfInBounds_toArray, List.set_cons_zero, List.set_cons_succ])
   refine wpAnyH_done (by kernel_rfl) ?_ _
   refine NoPanic.normal ?_
   (try simp only [Act.put, List.setIfInBounds_toArray, List.set_cons_zero, List.set_cons_succ])
   go_wp2
   go_ret
   exact ⟨rfl, .slice A n c, by rw [HFIN.out]; exact B8.out, R8.out, O8.out, OWN.out⟩
end Go.Proofs.YtlggichakafkiaaGreat
namespace Go.Proofs.YtlggichakafkiaaGreat
open Go.BigFrame Go.RowKit Go.Proofs.FuMem Go.Proofs.FuTop Go.Proofs.FuNvm Go.Proofs.FuBlock
set_option maxRecDepth 100000
theorem wpList_store_run {P : Program} {w : World} {ops : Array Oper} {rest : List Oper} {o : Oper} {a : Act} {Q : Exit → Act → World → Prop} (hgd : o.guard = none) (T : TypeId) (x y : Operand) (ho : o.op = .store T x y) (p v : Value) (hx : a.eval x = p) (hy : a.eval y = v) (w' : World)
  (hr : (Instr.storeAt T p v).run P w = .ok () w') (h : wpList P ops Q rest (a.put o.dst undef) w') : wpList P ops Q (o :: rest) a w :=
 wpList_plain hgd fun K hK => by
  unfold Oper.wp
  simp only [execOp, ho, hx, hy, Sem.run_bind, hr, Result.andThen_ok, Sem.run_pure]
  exact hK _ _ h
theorem store_phases (b : Nat) (W : World) (hb : Blk W b 231 #[.nilFunc, .nilFunc, .nilFunc, .nilFunc, .nilFunc, .nilFunc]) :
  ∃ w', (Instr.storeAt 231 (.pointer (some ⟨b, 0, none⟩)) (.agg phasesC)).run Tryz.prog W = .ok () w' ∧ Blk w' b 231 phasesC ∧ Only [b] W w' := by
 have FILL := Blk.fill6 hb (.func (.func 157) #[] #[]) (.func (.func 158) #[] #[]) (.func (.func 159) #[] #[]) (.func (.func 160) #[] #[]) (.func (.func 161) #[] #[]) (.func (.func 162) #[] #[])
 have hsf : ∀ (fn : Fn) (a : Addr) (W : World), Sem.run Tryz.prog (store a (.func fn #[] #[])) W = Go.stored Tryz.prog W a (.func fn #[] #[]) .plain := fun fn a W => run_store _ W a _ _ rfl
 have c0 := hb.cell 0
 have c1 := hb.cell 1
 have c2 := hb.cell 2
 have c3 := hb.cell 3
 have c4 := hb.cell 4
 have c5 := hb.cell 5
 have f0 := hb.frozen 0
 have f1 := hb.frozen 1
 have f2 := hb.frozen 2
 have f3 := hb.frozen 3
 have f4 := hb.frozen 4
 have f5 := hb.frozen 5
 refine ⟨_, ?_, FILL.1, FILL.2⟩
 clear FILL hb
 unfold phasesC
 go_simp
set_option maxHeartbeats 2000000 in
theorem rv_Step (g : Nat) (ph : Nat) (fid : FuncId) (cs : Array Value) (w : World) (hb : Blk w g 229 cs) (h2 : cs[2]? = some (.int .i64 ph)) (hph : ph < 6) (hfn : phasesC[ph]? = some (.func (.func fid) #[] #[])) (hent : ∀ w, (callFunc fid #[.pointer (some ⟨g, 0, none⟩)]).run Tryz.prog w = .ok (.enter fid #[.pointer (some ⟨g, 0, none⟩)]) w)
  (R : Int → Array Value → World → Prop) (HF : ∀ w1, Only [] w w1 → Calls Tryz.prog fid #[.pointer (some ⟨g, 0, none⟩)] w1 fun r w' => ∃ (c : Int) (ds : Array Value), r = .returned (.int .i64 c) ∧ Blk w' g 229 ds ∧ 2 < ds.size ∧ R c ds w') :
  Calls Tryz.prog 72 #[.pointer (some ⟨g, 0, none⟩)] w fun r w' => ∃ (c : Int) (ds : Array Value) (w2 : World), r = .returned (.int .i64 c) ∧ R c ds w2 ∧ Blk w2 g 229 ds ∧ ((c = 0 ∧ w' = w2) ∨ (c ≠ 0 ∧ w' = w2.setCell ⟨g, 2, none⟩ (.int .i64 7))) := by
 have HFF := hq9 HF
 have HB := hq9 hb
 have H2 := hq9 h2
 have HFN := hq9 hfn
 have q1 : decide ((ph : Int) ≥ 6) = false := by go_num
 have q2 : (0 : Int) ≤ (ph : Int) := by omega
 have q3 : (ph : Int) < 6 := by omega
 clear hb h2 HF hfn
 go_enter Tryz.func72, Tryz.ntmps72
 go_wp2_with fail
 refine (rv_phases w).mono ?_
 rintro r w1 ⟨rfl, o1⟩
 have O1 := hq9 o1
 obtain ⟨w2, hr2, b2, o2⟩ := store_phases w1.heap.size _ (Blk.new w1 231 #[.nilFunc, .nilFunc, .nilFunc, .nilFunc, .nilFunc, .nilFunc])
 have o12 := ((o1.alloc (.cells #[.nilFunc, .nilFunc, .nilFunc, .nilFunc, .nilFunc, .nilFunc] 231)).trans o2 (fun b hb => .inr (by simp at hb; rw [hb]; exact O1.out.size)))
 have O2 := hq9 o12
 have B2 := hq9 (HB.out.only o12 (by simp))
 have c2 : w2.cell? ⟨g, 2, none⟩ = some (.int .i64 ph) := (B2.out.cell 2).trans H2.out
 have cf : w2.cell? ⟨w1.heap.size, ph, none⟩ = some (.func (.func fid) #[] #[]) := (b2.cell ph).trans HFN.out
 have HR2 := hq9 hr2
 clear o1 b2 o2 o12 hr2
 go_wp2_with ((with_reducible show wpList _ _ _ (Oper.mk none _ _ _ _ _ :: _) _ _); refine wpList_store_run rfl 231 (.tmp 3) (.tmp 7) rfl _ _ rfl rfl _ HR2.out ?_)
 clear c2 cf HR2
 refine (HFF.out w2 O2.out).mono ?_
 rintro r w3 ⟨c, ds, rfl, b3, h3, hR⟩
 have B3 := hq9 b3
 have HR := hq9 hR
 obtain ⟨v2, hv2⟩ : ∃ v, ds[2]? = some v := ⟨_, Array.getElem?_eq_getElem h3⟩
 have k2 := (b3.cell 2).trans hv2
 have f2 := b3.frozen 2
 clear b3 hR h3 hv2
 by_cases hc : c = 0
 ·subst hc
  clear k2 f2
  go_wp2
  go_ret
  exact ⟨0, ds, w3, rfl, HR.out, B3.out, .inl ⟨rfl, rfl⟩⟩
 ·have q4 : (c != 0) = true := by simpa using hc
  have HC := hq9 hc
  clear hc
  go_wp2
  go_ret
  exact ⟨c, ds, w3, rfl, HR.out, B3.out, .inr ⟨HC.out, rfl⟩⟩
theorem rv_Step_end (g : Nat) (ph : Nat) (cs : Array Value) (w : World) (hb : Blk w g 229 cs) (h2 : cs[2]? = some (.int .i64 ph)) (hph : 6 ≤ ph) (hp7 : ph ≤ 7) :
  Calls Tryz.prog 72 #[.pointer (some ⟨g, 0, none⟩)] w fun r w' => r = .returned (.int .i64 12) ∧ Only [] w w' := by
 have HB := hq9 hb
 have H2 := hq9 h2
 have q1 : decide ((ph : Int) ≥ 6) = true := by go_num
 clear hb h2
 go_enter Tryz.func72, Tryz.ntmps72
 go_wp2_with fail
 refine (rv_phases w).mono ?_
 rintro r w1 ⟨rfl, o1⟩
 have O1 := hq9 o1
 obtain ⟨w2, hr2, b2, o2⟩ := store_phases w1.heap.size _ (Blk.new w1 231 #[.nilFunc, .nilFunc, .nilFunc, .nilFunc, .nilFunc, .nilFunc])
 have o12 := ((o1.alloc (.cells #[.nilFunc, .nilFunc, .nilFunc, .nilFunc, .nilFunc, .nilFunc] 231)).trans o2 (fun b hb => .inr (by simp at hb; rw [hb]; exact O1.out.size)))
 have O2 := hq9 o12
 have c2 : w2.cell? ⟨g, 2, none⟩ = some (.int .i64 ph) := ((HB.out.only o12 (by simp)).cell 2).trans H2.out
 have HR2 := hq9 hr2
 clear o1 b2 o2 o12 hr2
 go_wp2_with ((with_reducible show wpList _ _ _ (Oper.mk none _ _ _ _ _ :: _) _ _); refine wpList_store_run rfl 231 (.tmp 3) (.tmp 7) rfl _ _ rfl rfl _ HR2.out ?_)
 go_ret
 exact ⟨rfl, O2.out⟩
end Go.Proofs.YtlggichakafkiaaGreat
namespace Go.Proofs.FuTop
open Go.Proofs.FuClass Go.Proofs.FuBlock Go.Proofs.FuPool
structure RvOk (N : Nat) (s : Rv) : Prop where
 ph : s.ph ≤ 7
 z0 : s.ph = 0 → s.e = 0 ∧ s.nx = 0 ∧ s.F = [] ∧ s.K = []
 nxF : s.ph = 1 → s.F.length ≤ s.nx ∧ s.nx < 8 * slabsN N
 lenF : s.F.length ≤ 8 * slabsN N
 nx3 : s.ph = 3 ∨ s.ph = 4 → s.nx ≤ s.F.length
 bd : ∀ x ∈ s.F, Bd x ∧ x.line < N
 kb : ∀ x ∈ s.K, x ∈ s.F
 lenK : s.K.length ≤ s.F.length
 e : s.e ≤ 1152921504606846976
theorem slabs_lines {N : Nat} (h : 10 ≤ N) : 1 ≤ slabsN N ∧ 2 + 8 * slabsN N ≤ N ∧ slabsN N ≤ 32 := by
 unfold slabsN
 rw [if_neg (by omega)]
 omega
theorem openB_le (N : Nat) (B : Nat → List UInt8) : (openB N B).1 ≤ 1152921504606846976 := by
 unfold openB
 split
 ·split
  ·exact Nat.zero_le _
  ·rename_i h
   exact Nat.le_of_not_lt h
 ·exact Nat.zero_le _
theorem RvOk.start (N : Nat) (B : Nat → List UInt8) : RvOk N (startRv B) :=
 ⟨Nat.zero_le _, fun _ => ⟨rfl, rfl, rfl, rfl⟩, fun h => (by cases h), Nat.zero_le _, fun h => (by rcases h with h | h <;> cases h), fun _ h => (by cases h), fun _ h => (by cases h), Nat.le_refl _, Nat.zero_le _⟩
theorem keptOf_sub {e : Nat} {F : List Found} : (∀ x ∈ keptOf e F, x ∈ F) ∧ (keptOf e F).length ≤ F.length := ⟨fun _ h => (List.mem_filter.1 h).1, List.length_filter_le _ _⟩
theorem RvOk.wipe {N : Nat} {s : Rv} {dr : Int → List UInt8} {p : Found → Bool} {q : Nat} (h : RvOk N s) (hp : s.ph = 3 ∨ s.ph = 4) (hq : q = 4 ∨ q = 5) : RvOk N (wipeRv dr p q s) := by
 unfold wipeRv
 cases hn : nextAt p s.F s.nx with
 | none =>
   refine ⟨by show q ≤ 7; omega, fun h0 => ?_, fun h1 => ?_, h.lenF, fun _ => Nat.zero_le _, h.bd, h.kb, h.lenK, h.e⟩
   ·have : q = 0 := h0
    omega
   ·have : q = 1 := h1
    omega
 | some j =>
   obtain ⟨hj, x, hx, hpx, _⟩ := nextAt_some hn
   have hjl := (List.getElem?_eq_some_iff.1 hx).1
   show RvOk N (match s.F[j]? with | some x => { s with nx := j + 1, B := setB s.B x.line (dr x.b.cls) } | none => s)
   rw [hx]
   exact ⟨h.ph, fun h0 => by have : s.ph = 0 := h0; omega, fun h1 => by have : s.ph = 1 := h1; omega, h.lenF, fun _ => hjl, h.bd, h.kb, h.lenK, h.e⟩
theorem RvOk.step {srt : List Link → List Link} {dr : Int → List UInt8} {N : Nat} {s : Rv} (hN : 10 ≤ N) (h : RvOk N s) : RvOk N (stepRv srt N dr s) := by
 have hs := slabs_lines hN
 by_cases h6 : 6 ≤ s.ph
 ·rw [stepRv_end srt N dr h6]
  exact h
 have h7 : ∀ s' : Rv, s' = { s with ph := 7 } → RvOk N s' := fun s' e => by
  subst e
  exact ⟨Nat.le_refl _, fun h => (by cases h), fun h => (by cases h), h.lenF, fun h => (by rcases h with h | h <;> cases h), h.bd, h.kb, h.lenK, h.e⟩
 by_cases p0 : s.ph = 0
 ·rw [stepRv_0 srt N dr p0]
  obtain ⟨_, _, hF, hK⟩ := h.z0 p0
  split
  ·exact h7 _ rfl
  ·exact ⟨by show 1 ≤ 7; omega, fun h => (by cases h), fun _ => by rw [hF]; exact ⟨Nat.le_refl _, by show 0 < _; omega⟩, h.lenF, fun h => (by rcases h with h | h <;> cases h), h.bd, h.kb, h.lenK, openB_le N s.B⟩
 by_cases p1 : s.ph = 1
 ·rw [stepRv_1 srt N dr p1]
  obtain ⟨h1, h2⟩ := h.nxF p1
  have hl : (s.F ++ (scan1 s.B (2 + s.nx)).toList).length ≤ s.nx + 1 := by
   rw [List.length_append]
   have : (scan1 s.B (2 + s.nx)).toList.length ≤ 1 := by cases scan1 s.B (2 + s.nx) <;> simp
   omega
  have hb : ∀ x ∈ s.F ++ (scan1 s.B (2 + s.nx)).toList, Bd x ∧ x.line < N := fun x hx => by
   rcases List.mem_append.1 hx with hx | hx
   ·exact h.bd x hx
   ·have hx' : scan1 s.B (2 + s.nx) = some x := by simpa using hx
    have hln := (scan1_line hx').1
    have hf : x ∈ foundTo s.B (s.nx + 1) := found_mem (line := 2 + s.nx) hx' (by omega) (by omega)
    exact ⟨found_bd hf, by omega⟩
  unfold scanRv
  split
  ·exact ⟨by show 2 ≤ 7; omega, fun h => (by cases h), fun h => (by cases h), by show (s.F ++ _).length ≤ _; omega, fun h => (by rcases h with h | h <;> cases h), hb, fun x hx => List.mem_append_left _ (h.kb x hx), by show s.K.length ≤ (s.F ++ _).length; rw [List.length_append]; have := h.lenK; omega, h.e⟩
  ·rename_i hn
   exact ⟨h.ph, fun h0 => by have : s.ph = 0 := h0; omega, fun _ => ⟨hl, by show s.nx + 1 < _; omega⟩, by show (s.F ++ _).length ≤ _; omega, fun h => by rcases h with h | h <;> (have : s.ph = _ := h; omega), hb, fun x hx => List.mem_append_left _ (h.kb x hx), by show s.K.length ≤ (s.F ++ _).length; rw [List.length_append]; have := h.lenK; omega, h.e⟩
 by_cases p2 : s.ph = 2
 ·rw [stepRv_2 srt N dr p2]
  split
  ·exact h7 _ rfl
  ·exact ⟨by show 3 ≤ 7; omega, fun h => (by cases h), fun h => (by cases h), h.lenF, fun _ => Nat.zero_le _, h.bd, keptOf_sub.1, keptOf_sub.2, h.e⟩
 by_cases p3 : s.ph = 3
 ·rw [stepRv_3 srt N dr p3]
  exact h.wipe (.inl p3) (.inl rfl)
 by_cases p4 : s.ph = 4
 ·rw [stepRv_4 srt N dr p4]
  exact h.wipe (.inr p4) (.inr rfl)
 have p5 : s.ph = 5 := by omega
 rw [stepRv_5 srt N dr p5]
 split
 ·exact h7 _ rfl
 ·exact ⟨by show 6 ≤ 7; omega, fun h => (by cases h), fun h => (by cases h), h.lenF, fun h => (by rcases h with h | h <;> cases h), h.bd, h.kb, h.lenK, h.e⟩
theorem RvOk.run {srt : List Link → List Link} {dr : Int → List UInt8} {N : Nat} (hN : 10 ≤ N) : ∀ (k : Nat) {s : Rv}, RvOk N s → RvOk N (runRv srt N dr k s)
 | 0, _, h => h
 | k + 1, _, h => RvOk.run hN k (h.step hN)
end Go.Proofs.FuTop
namespace Go.Proofs.YtlggichakafkiaaGreat
open Go.BigFrame Go.RowKit Go.Proofs.FuMem Go.Proofs.FuTop Go.Proofs.FuNvm
set_option maxRecDepth 100000
theorem rv_New (gd : Nat) (w : World) :
  Calls Tryz.prog 70 #[.pointer (some ⟨gd, 0, none⟩), .int .i64 1] w fun r w' => ∃ g, r = .returned (.tuple #[.pointer (some ⟨g, 0, none⟩), .int .i64 0]) ∧ Blk w' g 229 (rvHead gd 0 0 0 (.slice none 0 0) (.slice none 0 0) 0 (.pointer none) 0) ∧ Only [] w w' ∧ w.heap.size ≤ g := by
 have BX := hq9 (Blk.new w 229 (rvHead gd 0 0 0 (.slice none 0 0) (.slice none 0 0) 0 (.pointer none) 0))
 have OX := hq9 ((Only.refl [] w).alloc (.cells (rvHead gd 0 0 0 (.slice none 0 0) (.slice none 0 0) 0 (.pointer none) 0) 229))
 go_enter Tryz.func70, Tryz.ntmps70
 go_wp2
 go_ret2
 exact ⟨_, rfl, BX.out, OX.out, Nat.le_refl _⟩
theorem rv_Phase (g : Nat) (ph : Int) (cs : Array Value) (w : World) (hb : Blk w g 229 cs) (hp : cs[2]? = some (.int .i64 ph)) :
  Calls Tryz.prog 71 #[.pointer (some ⟨g, 0, none⟩)] w fun r w' => r = .returned (.int .i64 ph) ∧ w = w' := by
 have c2 := (hb.cell 2).trans hp
 clear hb hp
 go_enter Tryz.func71, Tryz.ntmps71
 go_wp2
 go_ret
 exact ⟨rfl, rfl⟩
theorem rv_Arena (g gd e : Nat) (ph nx : Int) (fv kv : Value) (done : Int) (sv : Value) (why : Int) (w : World) (hb : Blk w g 229 (rvHead gd ph e nx fv kv done sv why)) :
  Calls Tryz.prog 73 #[.pointer (some ⟨g, 0, none⟩)] w fun r w' => r = .returned (.tuple #[if ph = 6 then sv else .pointer none, .bool (decide (ph = 6))]) ∧ w = w' := by
 have c2 : w.cell? ⟨g, 2, none⟩ = some (.int .i64 ph) := hb.cell 2
 have c10 : w.cell? ⟨g, 10, none⟩ = some sv := hb.cell 10
 clear hb
 by_cases h : ph = 6
 ·subst h
  go_enter Tryz.func73, Tryz.ntmps73
  go_wp2
  go_ret2
  first | exact ⟨rfl, rfl⟩ | rfl | trivial
 ·rw [if_neg h, decide_eq_false h]
  have q1 : (ph != 6) = true := by simpa using h
  go_enter Tryz.func73, Tryz.ntmps73
  go_wp2
  go_ret2
  first | exact ⟨rfl, rfl⟩ | rfl | trivial
end Go.Proofs.YtlggichakafkiaaGreat
namespace Go.Proofs.YtlggichakafkiaaGreat
open Go.BigFrame Go.RowKit Go.Proofs.FuMem Go.Proofs.FuTop Go.Proofs.FuNvm Go.Proofs.FuBlock Go.Proofs.FuClass
set_option maxRecDepth 100000
structure RvMem (w0 : World) (g gd cb cap N : Nat) (s : Rv) (fv kv sv : Value) (done why : Int) (D : Dev) (w : World) : Prop where
 head : Blk w g 229 (rvHead gd s.ph s.e s.nx fv kv done sv why)
 fr : RowS 339 9 w fv (s.F.map foundC)
 kr : RowS 339 9 w kv (s.K.map foundC)
 dev : DevAt w gd cb cap D
 bs : bytesAt D = s.B
 len : D.lines.length = N
 held : s.ph = 3 ∨ s.ph = 4 → Held D
 calm : ¬ (s.ph = 3 ∨ s.ph = 4) → Calm D
 only : Only [gd, cb] w0 w
 gn : w0.heap.size ≤ g
 gdl : gd < w0.heap.size
 cbl : cb < w0.heap.size
 fo : ∀ b, fv.ownBlock = some b → w0.heap.size ≤ b ∧ b ≠ g
 ko : ∀ b, kv.ownBlock = some b → w0.heap.size ≤ b ∧ b ≠ g
 k0 : s.ph ≤ 2 → kv = .slice none 0 0 ∧ s.K = []
 low : s.ph ≤ 5 → done = 0 ∧ sv = .pointer none ∧ why = 0
 up : s.ph = 6 → ∃ (A : Ar) (B : ArB) (Ls : List (List FuTop.Link)), overOf srtL N s.K = some A ∧ sv = pt B.a ∧ ArAt w gd B (ovS 1 s.e N A Ls A.line) ∧ ∀ b ∈ (arFs B).flatten, w0.heap.size ≤ b
def RvAt (w0 : World) (g gd cb cap N : Nat) (s : Rv) (w : World) : Prop := ∃ fv kv sv done why D, RvMem w0 g gd cb cap N s fv kv sv done why D w
def StepAns (w0 : World) (g gd cb cap N : Nat) (s : Rv) (r : Ending) (w' : World) : Prop := (∃ c : Int, r = .returned (.int .i64 c)) ∧ RvAt w0 g gd cb cap N s w'
theorem rvHead_7 (gd : Nat) (ph : Int) (e : Nat) (nx : Int) (fv kv : Value) (done : Int) (sv : Value) (why : Int) : (rvHead gd ph e nx fv kv done sv why).setIfInBounds 2 (.int .i64 7) = rvHead gd 7 e nx fv kv done sv why := rfl
theorem kind_head (b : Block) (hk : b.kind = 0) : (head32 b).getD 2 0 = 0 := by
 unfold head32
 rw [hk]
 rfl
theorem draft_kind (c : Int) : (draftOf c).getD 2 0 = 0 := by
 unfold draftOf
 split
 ·rfl
 ·unfold linesTo
  rw [laid_get _ _ _ (by omega)]
  exact kind_head _ rfl
theorem draft_len {c : Int} (h0 : 0 ≤ c) (h3 : c ≤ 3) : (draftOf c).length = 64 := by
 unfold draftOf
 rw [if_neg (by have := span_cases c; omega)]
 unfold linesTo
 rw [laid_length]
theorem startAt (w0 w : World) (g gd cb cap N : Nat) (D : Dev) (hb : Blk w g 229 (rvHead gd 0 0 0 (.slice none 0 0) (.slice none 0 0) 0 (.pointer none) 0)) (hd : DevAt w gd cb cap D) (hl : D.lines.length = N) (hc : Calm D) (ho : Only [gd, cb] w0 w) (hg : w0.heap.size ≤ g) (h1 : gd < w0.heap.size) (h2 : cb < w0.heap.size) : RvAt w0 g gd cb cap N (startRv (bytesAt D)) w :=
 ⟨.slice none 0 0, .slice none 0 0, .pointer none, 0, 0, D, hb, RowS.nil _ _ _, RowS.nil _ _ _, hd, rfl, hl, fun h => (by rcases h with h | h <;> cases h), fun _ => hc, ho, hg, h1, h2, fun b hb => (by cases hb), fun b hb => (by cases hb), fun _ => ⟨rfl, rfl⟩, fun _ => ⟨rfl, rfl, rfl⟩, fun h => (by cases h)⟩
section
variable {w0 w : World} {g gd cb cap N : Nat} {s : Rv}
theorem StepAns.broken {w2 : World} {fv kv sv : Value} {done why : Int} {D : Dev} (h : RvMem w0 g gd cb cap N { s with ph := 7 } fv kv sv done why D (w2.setCell ⟨g, 2, none⟩ (.int .i64 7))) {c : Int} : StepAns w0 g gd cb cap N { s with ph := 7 } (.returned (.int .i64 c)) (w2.setCell ⟨g, 2, none⟩ (.int .i64 7)) := ⟨⟨c, rfl⟩, _, _, _, _, _, _, h⟩
theorem RvMem.broken {ph : Nat} {fv kv sv sv' : Value} {done why done' why' : Int} {D : Dev} {w2 : World} (hp : s.ph = ph) (h6 : ph < 6) (h34 : ¬ (ph = 3 ∨ ph = 4)) (hm : RvMem w0 g gd cb cap N s fv kv sv done why D w) (hb : Blk w2 g 229 (rvHead gd ph s.e s.nx fv kv done' sv' why')) (ho : Only [g] w w2) :
  RvMem w0 g gd cb cap N { s with ph := 7 } fv kv sv' done' why' D (w2.setCell ⟨g, 2, none⟩ (.int .i64 7)) := by
 have hg1 := hm.gn
 have hg2 := hm.gdl
 have hg3 := hm.cbl
 have os := (Only.refl [g] w2).setCell (p := ⟨g, 2, none⟩) (.inl (by simp)) (.int .i64 7)
 have o2 : Only [g] w (w2.setCell ⟨g, 2, none⟩ (.int .i64 7)) := ho.trans os (fun b hb => .inl hb)
 refine ⟨?_, hm.fr.only o2 (fun b hb h => by simp at h; exact (hm.fo b hb).2 h), hm.kr.only o2 (fun b hb h => by simp at h; exact (hm.ko b hb).2 h), hm.dev.only o2 (by simp; omega) (by simp; omega), hm.bs, hm.len, fun h => (by rcases h with h | h <;> cases h), fun _ => hm.calm (by rw [hp]; exact h34), hm.only.trans o2 (fun b hb => .inr (by simp at hb; omega)), hg1, hg2, hg3, hm.fo, hm.ko, fun h => ?_, fun h => ?_, fun h => (by cases h)⟩
 ·have := hb.set 2 (.int .i64 7)
  rw [rvHead_7] at this
  exact this
 ·have : (7 : Nat) ≤ 2 := h
  omega
 ·have : (7 : Nat) ≤ 5 := h
  omega
end
def entOk (f : FuncId) : Prop := ∀ (g : Nat) (w : World), (callFunc f #[.pointer (some ⟨g, 0, none⟩)]).run Tryz.prog w = .ok (.enter f #[.pointer (some ⟨g, 0, none⟩)]) w
theorem ent_open : entOk 157 := fun g w => by simp [callFunc, Tryz.func157]; rfl
theorem ent_scan : entOk 158 := fun g w => by simp [callFunc, Tryz.func158]; rfl
theorem ent_decide : entOk 159 := fun g w => by simp [callFunc, Tryz.func159]; rfl
theorem ent_scrub : entOk 160 := fun g w => by simp [callFunc, Tryz.func160]; rfl
theorem ent_antis : entOk 161 := fun g w => by simp [callFunc, Tryz.func161]; rfl
theorem ent_rebuild : entOk 162 := fun g w => by simp [callFunc, Tryz.func162]; rfl
theorem step_0 (w0 w : World) (g gd cb cap N : Nat) (e nx : Nat) (F K : List FuTop.Found) (B : Nat → List UInt8) (hok : RvOk N ⟨0, e, nx, F, K, B⟩) (h : RvAt w0 g gd cb cap N ⟨0, e, nx, F, K, B⟩ w) :
  Calls Tryz.prog 72 #[.pointer (some ⟨g, 0, none⟩)] w fun r w' => StepAns w0 g gd cb cap N (stepRv srtL N draftOf ⟨0, e, nx, F, K, B⟩) r w' := by
 obtain ⟨fv, kv, sv, done, why, D, hm⟩ := h
 obtain ⟨he, hn, hF, hK⟩ := hok.z0 rfl
 dsimp only at he hn hF hK
 subst he hn hF hK
 have hbs := hm.bs
 dsimp only at hbs
 subst hbs
 have hl := hm.len
 have hg1 := hm.gn
 have hg2 := hm.gdl
 have hg3 := hm.cbl
 refine (rv_Step g 0 _ _ w hm.head rfl (by decide) rfl (ent_open g) (fun c ds w' => c = ((openB N (bytesAt D)).2 : Nat) ∧ ds = (if (openB N (bytesAt D)).2 = 0 then rvHead gd 1 (openB N (bytesAt D)).1 0 fv kv done sv why else rvHead gd 0 0 0 fv kv done sv why) ∧ Only [g] w w') (fun w1 o1 => ?_)).mono ?_
 ·refine (rv_open g gd cb cap D fv kv done sv why w1 (hm.head.only o1 (by simp)) (hm.dev.only0 o1)).mono ?_
  rintro r w' ⟨rfl, hb, ho⟩
  rw [hl] at hb ⊢
  refine ⟨_, _, rfl, hb, ?_, rfl, rfl, (o1.mono (T := [g]) (by simp)).trans ho (fun b hb => .inl hb)⟩
  split <;> exact (by decide : 2 < 12)
 ·rintro r w' ⟨c, ds, w2, rfl, ⟨hc, hds, ho⟩, hb, hw⟩
  rw [stepRv_0 srtL N draftOf rfl]
  dsimp only
  by_cases hx : (openB N (bytesAt D)).2 = 0
  ·rw [if_neg (by simpa using hx)]
   rw [if_pos hx] at hds
   rcases hw with ⟨_, rfl⟩ | ⟨hc2, _⟩
   ·subst hds
    refine ⟨⟨c, rfl⟩, fv, kv, sv, done, why, D, hb, hm.fr.only ho (fun b hb h => by simp at h; exact (hm.fo b hb).2 h), hm.kr.only ho (fun b hb h => by simp at h; exact (hm.ko b hb).2 h), hm.dev.only ho (by simp; omega) (by simp; omega), rfl, hl, fun h => (by rcases h with h | h <;> cases h), fun _ => hm.calm (by simp), hm.only.trans ho (fun b hb => .inr (by simp at hb; omega)), hg1, hg2, hg3, hm.fo, hm.ko, fun _ => hm.k0 (by simp), fun _ => hm.low (by simp), fun h => (by cases h)⟩
   ·rw [hx] at hc
    exact absurd hc hc2
  ·rw [if_pos (by simpa using hx)]
   rw [if_neg hx] at hds
   rcases hw with ⟨hc2, _⟩ | ⟨_, rfl⟩
   ·omega
   ·subst hds
    exact StepAns.broken (RvMem.broken (ph := 0) rfl (by decide) (by decide) hm hb ho)
end Go.Proofs.YtlggichakafkiaaGreat
namespace Go.Proofs.YtlggichakafkiaaGreat
open Go.BigFrame Go.RowKit Go.Proofs.FuMem Go.Proofs.FuTop Go.Proofs.FuNvm Go.Proofs.FuBlock Go.Proofs.FuClass
set_option maxRecDepth 100000
set_option maxHeartbeats 800000 in
theorem step_1 (w0 w : World) (g gd cb cap N : Nat) (e nx : Nat) (F K : List FuTop.Found) (B : Nat → List UInt8) (hN : 10 ≤ N) (hok : RvOk N ⟨1, e, nx, F, K, B⟩) (h : RvAt w0 g gd cb cap N ⟨1, e, nx, F, K, B⟩ w) :
  Calls Tryz.prog 72 #[.pointer (some ⟨g, 0, none⟩)] w fun r w' => StepAns w0 g gd cb cap N (stepRv srtL N draftOf ⟨1, e, nx, F, K, B⟩) r w' := by
 obtain ⟨fv, kv, sv, done, why, D, hm⟩ := h
 have hsl := slabs_lines hN
 obtain ⟨hn1, hn2⟩ := hok.nxF rfl
 dsimp only at hn1 hn2
 have hbs := hm.bs
 dsimp only at hbs
 subst hbs
 have hl := hm.len
 have hg1 := hm.gn
 have hg2 := hm.gdl
 have hg3 := hm.cbl
 have hfo := hm.fo
 obtain ⟨hkv, hK⟩ := hm.k0 (by simp)
 dsimp only at hK
 refine (rv_Step g 1 _ _ w hm.head rfl (by decide) rfl (ent_scan g) (fun c ds w' => c = 0 ∧ ∃ fv' : Value, RowS 339 9 w' fv' ((F ++ (scan1 (bytesAt D) (2 + nx)).toList).map foundC) ∧ ds = (if 8 * slabsN N ≤ nx + 1 then rvHead gd 2 e 0 fv' kv done sv why else rvHead gd 1 e ((nx : Int) + 1) fv' kv done sv why) ∧ Only (g :: fv.ownBlock.toList) w w' ∧ (∀ b, fv'.ownBlock = some b → fv.ownBlock = some b ∨ w.heap.size ≤ b)) (fun w1 o1 => ?_)).mono ?_
 ·refine (rv_scan g gd cb cap e nx fv kv sv done why F D w1 (hm.head.only o1 (by simp)) (hm.fr.only0 o1) (hm.dev.only0 o1) (fun b hb => by have := hfo b hb; omega) (by omega) (by omega) (by omega)).mono ?_
  rintro r w' ⟨rfl, fv', hr, hb, ho, hf⟩
  rw [hl] at hb
  refine ⟨0, _, rfl, hb, ?_, rfl, fv', hr, rfl, (o1.mono (T := g :: fv.ownBlock.toList) (by simp)).trans ho (fun b hb => .inl hb), fun b hb => (hf b hb).imp id fun h => Nat.le_trans o1.size h⟩
  split <;> exact (by decide : 2 < 12)
 ·rintro r w' ⟨c, ds, w2, rfl, ⟨rfl, fv', hr, rfl, ho, hf⟩, hb, hw⟩
  have hw' : w' = w2 := by
   rcases hw with ⟨_, h⟩ | ⟨h, _⟩
   ·exact h
   ·exact absurd rfl h
  subst hw'
  rw [stepRv_1 srtL N draftOf rfl]
  have hwl := hm.head.lt
  have hws := hm.only.size
  have hT : ∀ b ∈ g :: fv.ownBlock.toList, b ∈ [gd, cb] ∨ w0.heap.size ≤ b := fun b hb => by
   rcases List.mem_cons.1 hb with rfl | hb
   ·exact .inr hg1
   ·exact .inr (hfo b (own_mem.1 hb)).1
  have hnd : gd ∉ g :: fv.ownBlock.toList ∧ cb ∉ g :: fv.ownBlock.toList := ⟨fun h => by
   rcases List.mem_cons.1 h with h | h
   ·omega
   ·have := (hfo _ (own_mem.1 h)).1
    omega, fun h => by
   rcases List.mem_cons.1 h with h | h
   ·omega
   ·have := (hfo _ (own_mem.1 h)).1
    omega⟩
  have hfo' : ∀ b, fv'.ownBlock = some b → w0.heap.size ≤ b ∧ b ≠ g := fun b hb => by
   rcases hf b hb with h | h
   ·exact hfo b h
   ·omega
  have hkr : RowS 339 9 w' kv (K.map foundC) := by
   rw [hkv, hK]
   exact RowS.nil _ _ _
  unfold scanRv
  dsimp only
  by_cases hx : 8 * slabsN N ≤ nx + 1
  ·rw [if_pos hx] at hb ⊢
   exact ⟨⟨0, rfl⟩, fv', kv, sv, done, why, D, hb, hr, hkr, hm.dev.only ho hnd.1 hnd.2, rfl, hl, fun h => (by rcases h with h | h <;> cases h), fun _ => hm.calm (by simp), hm.only.trans ho hT, hg1, hg2, hg3, hfo', hm.ko, fun _ => ⟨hkv, hK⟩, fun _ => hm.low (by simp), fun h => (by cases h)⟩
  ·rw [if_neg hx] at hb ⊢
   exact ⟨⟨0, rfl⟩, fv', kv, sv, done, why, D, by rw [show (((nx + 1 : Nat)) : Int) = (nx : Int) + 1 by omega]; exact hb, hr, hkr, hm.dev.only ho hnd.1 hnd.2, rfl, hl, fun h => (by rcases h with h | h <;> cases h), fun _ => hm.calm (by simp), hm.only.trans ho hT, hg1, hg2, hg3, hfo', hm.ko, fun _ => ⟨hkv, hK⟩, fun _ => hm.low (by simp), fun h => (by cases h)⟩
set_option maxHeartbeats 800000 in
theorem step_2 (w0 w : World) (g gd cb cap N : Nat) (e nx : Nat) (F K : List FuTop.Found) (B : Nat → List UInt8) (hN : 10 ≤ N) (hok : RvOk N ⟨2, e, nx, F, K, B⟩) (h : RvAt w0 g gd cb cap N ⟨2, e, nx, F, K, B⟩ w) :
  Calls Tryz.prog 72 #[.pointer (some ⟨g, 0, none⟩)] w fun r w' => StepAns w0 g gd cb cap N (stepRv srtL N draftOf ⟨2, e, nx, F, K, B⟩) r w' := by
 obtain ⟨fv, kv, sv, done, why, D, hm⟩ := h
 have hsl := slabs_lines hN
 have hbs := hm.bs
 dsimp only at hbs
 subst hbs
 have hl := hm.len
 have hg1 := hm.gn
 have hg2 := hm.gdl
 have hg3 := hm.cbl
 have hfo := hm.fo
 have hwl := hm.head.lt
 have hws := hm.only.size
 have hlF := hok.lenF
 have hle := hok.e
 dsimp only at hlF hle
 refine (rv_Step g 2 _ _ w hm.head rfl (by decide) rfl (ent_decide g) (fun c ds w' => match overOf srtL N (keptOf e F) with
   | none => c ≠ 0 ∧ ds = rvHead gd 2 e nx fv kv done sv why ∧ Only [g] w w'
   | some _ => c = 0 ∧ ∃ kv' : Value, RowS 339 9 w' kv' ((keptOf e F).map foundC) ∧ ds = rvHead gd 3 e 0 fv kv' done sv why ∧ Only [g] w w' ∧ ∀ b, kv'.ownBlock = some b → w.heap.size ≤ b) (fun w1 o1 => ?_)).mono ?_
 ·refine (rv_decide g gd cb cap e nx fv kv sv done why F D w1 (hm.head.only o1 (by simp)) (hm.fr.only0 o1) (hm.dev.only0 o1) (by rw [hl]; exact hN) hle (fun x hx => (hok.bd x hx).1) (by omega)).mono ?_
  intro r w' hd
  unfold DecAns at hd
  rw [hl] at hd
  cases hq : overOf srtL N (keptOf e F) with
  | none =>
    rw [hq] at hd
    obtain ⟨⟨c, hc, rfl⟩, ho⟩ := hd
    exact ⟨c, _, rfl, (hm.head.only o1 (by simp)).only ho (by simp), (by decide : 2 < 12), hc, rfl, (o1.trans0 ho).mono (by simp)⟩
  | some A =>
    rw [hq] at hd
    obtain ⟨rfl, kv', hr, hb, ho, hf⟩ := hd
    exact ⟨0, _, rfl, hb, (by decide : 2 < 12), rfl, kv', hr, rfl, (o1.mono (T := [g]) (by simp)).trans ho (fun b hb => .inl hb), fun b hb => Nat.le_trans o1.size (hf b hb)⟩
 ·rintro r w' ⟨c, ds, w2, rfl, hd, hb, hw⟩
  rw [stepRv_2 srtL N draftOf rfl]
  dsimp only
  cases hq : overOf srtL N (keptOf e F) with
  | none =>
    rw [hq] at hd
    obtain ⟨hc, rfl, ho⟩ := hd
    rw [if_pos rfl]
    rcases hw with ⟨hc2, _⟩ | ⟨_, rfl⟩
    ·exact absurd hc2 hc
    ·exact StepAns.broken (s := ⟨2, e, nx, F, K, bytesAt D⟩) (RvMem.broken (ph := 2) rfl (by decide) (by decide) hm hb ho)
  | some A =>
    rw [hq] at hd
    obtain ⟨rfl, kv', hr, rfl, ho, hf⟩ := hd
    rw [if_neg (by simp)]
    have hw' : w' = w2 := by
     rcases hw with ⟨_, h⟩ | ⟨h, _⟩
     ·exact h
     ·exact absurd rfl h
    subst hw'
    exact ⟨⟨0, rfl⟩, fv, kv', sv, done, why, D, hb, hm.fr.only ho (fun b hb h => by simp at h; exact (hm.fo b hb).2 h), hr, hm.dev.only ho (by simp; omega) (by simp; omega), rfl, hl, fun _ => (hm.calm (by simp)).held, fun h => absurd (.inl rfl) h, hm.only.trans ho (fun b hb => .inr (by simp at hb; omega)), hg1, hg2, hg3, hm.fo, fun b hb => by have := hf b hb; omega, fun h => (by have : (3 : Nat) ≤ 2 := h; omega), fun _ => hm.low (by simp), fun h => (by cases h)⟩
theorem step_wipe {w0 w w' : World} {g gd cb cap N : Nat} {ph q e nx : Nat} {F K : List FuTop.Found} {fv kv sv : Value} {done why : Int} {D : Dev} {p : FuTop.Found → Bool} (h3 : (ph = 3 ∧ q = 4) ∨ (ph = 4 ∧ q = 5)) (hok : RvOk N ⟨ph, e, nx, F, K, bytesAt D⟩) (hm : RvMem w0 g gd cb cap N ⟨ph, e, nx, F, K, bytesAt D⟩ fv kv sv done why D w)
  (ha : WipeAns g gd cb cap e ph q p F nx fv kv sv done why D w') (ho : Only [g, gd, cb] w w') : RvAt w0 g gd cb cap N (wipeRv draftOf p q ⟨ph, e, nx, F, K, bytesAt D⟩) w' := by
 have hl := hm.len
 have hg1 := hm.gn
 have hg2 := hm.gdl
 have hg3 := hm.cbl
 have hfr := hm.fr.only ho (fun b hb h => by have := hm.fo b hb; simp at h; omega)
 have hkr := hm.kr.only ho (fun b hb h => by have := hm.ko b hb; simp at h; omega)
 have hoo := hm.only.trans ho (fun b hb => by
  rcases List.mem_cons.1 hb with rfl | hb
  ·exact .inr hg1
  ·exact .inl hb)
 have hH : Held D := hm.held (by show ph = 3 ∨ ph = 4; omega)
 have hk0 : ∀ r, r = ph ∨ r = q → r ≤ 2 → kv = .slice none 0 0 ∧ K = [] := fun r h h2 => by omega
 have hlow := hm.low (by show ph ≤ 5; omega)
 unfold WipeAns at ha
 unfold wipeRv
 dsimp only
 cases hn : nextAt p F nx with
 | none =>
   rw [hn] at ha
   obtain ⟨hb, hd⟩ := ha
   obtain ⟨hc, hbs, hln⟩ := hH.fence
   exact ⟨fv, kv, sv, done, why, fenceD D, hb, hfr, hkr, hd, hbs, hln.trans hl, fun _ => hc.held, fun _ => hc, hoo, hg1, hg2, hg3, hm.fo, hm.ko, fun h => hk0 q (.inr rfl) h, fun _ => hlow, fun h => (by have : q = 6 := h; omega)⟩
 | some j =>
   rw [hn] at ha
   obtain ⟨x, hx, hpx, hb, hd⟩ := ha
   have hxF := List.mem_of_getElem? hx
   obtain ⟨hbd, hln⟩ := hok.bd x hxF
   obtain ⟨hc, hbs, hlen⟩ := hH.scrub hm.dev.ok (i := x.line) (by rw [hl]; exact hln) (draft_len hbd.c0 hbd.c3)
   show RvAt w0 g gd cb cap N (match F[j]? with | some x => _ | none => _) w'
   rw [hx]
   exact ⟨fv, kv, sv, done, why, scrubD D x, hb, hfr, hkr, hd, hbs, hlen.trans hl, fun _ => hc, fun h => absurd (show ph = 3 ∨ ph = 4 by omega) h, hoo, hg1, hg2, hg3, hm.fo, hm.ko, fun h => hk0 ph (.inl rfl) h, fun _ => hlow, fun h => (by have : ph = 6 := h; omega)⟩
theorem step_3 (w0 w : World) (g gd cb cap N : Nat) (e nx : Nat) (F K : List FuTop.Found) (B : Nat → List UInt8) (hN : 10 ≤ N) (hok : RvOk N ⟨3, e, nx, F, K, B⟩) (h : RvAt w0 g gd cb cap N ⟨3, e, nx, F, K, B⟩ w) :
  Calls Tryz.prog 72 #[.pointer (some ⟨g, 0, none⟩)] w fun r w' => StepAns w0 g gd cb cap N (stepRv srtL N draftOf ⟨3, e, nx, F, K, B⟩) r w' := by
 obtain ⟨fv, kv, sv, done, why, D, hm⟩ := h
 have hsl := slabs_lines hN
 have hbs := hm.bs
 dsimp only at hbs
 subst hbs
 have hl := hm.len
 have hg1 := hm.gn
 have hg2 := hm.gdl
 have hg3 := hm.cbl
 have hlF := hok.lenF
 dsimp only at hlF
 refine (rv_Step g 3 _ _ w hm.head rfl (by decide) rfl (ent_scrub g) (fun c ds w' => c = 0 ∧ WipeAns g gd cb cap e 3 4 (toScrub e F) F nx fv kv sv done why D w' ∧ Only [g, gd, cb] w w') (fun w1 o1 => ?_)).mono ?_
 ·refine (rv_scrub g gd cb cap e nx fv kv sv done why F D w1 (hm.head.only o1 (by simp)) (hm.fr.only0 o1) (hm.dev.only0 o1) (fun b hb => by have := hm.fo b hb; omega) (by omega) (by omega) (fun x hx => by rw [hl]; exact hok.bd x hx) (hok.nx3 (.inl rfl))).mono ?_
  rintro r w' ⟨rfl, ha, ho⟩
  have hds : ∃ ds : Array Value, Blk w' g 229 ds ∧ 2 < ds.size := by
   unfold WipeAns at ha
   split at ha
   ·obtain ⟨x, _, _, hb, _⟩ := ha
    exact ⟨_, hb, (by decide : 2 < 12)⟩
   ·exact ⟨_, ha.1, (by decide : 2 < 12)⟩
  obtain ⟨ds, hb, h2⟩ := hds
  exact ⟨0, ds, rfl, hb, h2, rfl, ha, (o1.mono (T := [g, gd, cb]) (by simp)).trans ho (fun b hb => .inl hb)⟩
 ·rintro r w' ⟨c, ds, w2, rfl, ⟨rfl, ha, ho⟩, hb, hw⟩
  have hw' : w' = w2 := by
   rcases hw with ⟨_, h⟩ | ⟨h, _⟩
   ·exact h
   ·exact absurd rfl h
  subst hw'
  rw [stepRv_3 srtL N draftOf rfl]
  exact ⟨⟨0, rfl⟩, step_wipe (.inl ⟨rfl, rfl⟩) hok hm ha ho⟩
theorem step_4 (w0 w : World) (g gd cb cap N : Nat) (e nx : Nat) (F K : List FuTop.Found) (B : Nat → List UInt8) (hN : 10 ≤ N) (hok : RvOk N ⟨4, e, nx, F, K, B⟩) (h : RvAt w0 g gd cb cap N ⟨4, e, nx, F, K, B⟩ w) :
  Calls Tryz.prog 72 #[.pointer (some ⟨g, 0, none⟩)] w fun r w' => StepAns w0 g gd cb cap N (stepRv srtL N draftOf ⟨4, e, nx, F, K, B⟩) r w' := by
 obtain ⟨fv, kv, sv, done, why, D, hm⟩ := h
 have hsl := slabs_lines hN
 have hbs := hm.bs
 dsimp only at hbs
 subst hbs
 have hl := hm.len
 have hg1 := hm.gn
 have hg2 := hm.gdl
 have hg3 := hm.cbl
 have hlF := hok.lenF
 dsimp only at hlF
 refine (rv_Step g 4 _ _ w hm.head rfl (by decide) rfl (ent_antis g) (fun c ds w' => c = 0 ∧ WipeAns g gd cb cap e 4 5 (anti e) F nx fv kv sv done why D w' ∧ Only [g, gd, cb] w w') (fun w1 o1 => ?_)).mono ?_
 ·refine (rv_antis g gd cb cap e nx fv kv sv done why F D w1 (hm.head.only o1 (by simp)) (hm.fr.only0 o1) (hm.dev.only0 o1) (fun b hb => by have := hm.fo b hb; omega) (by omega) (by omega) (fun x hx => by rw [hl]; exact hok.bd x hx) (hok.nx3 (.inr rfl))).mono ?_
  rintro r w' ⟨rfl, ha, ho⟩
  have hds : ∃ ds : Array Value, Blk w' g 229 ds ∧ 2 < ds.size := by
   unfold WipeAns at ha
   split at ha
   ·obtain ⟨x, _, _, hb, _⟩ := ha
    exact ⟨_, hb, (by decide : 2 < 12)⟩
   ·exact ⟨_, ha.1, (by decide : 2 < 12)⟩
  obtain ⟨ds, hb, h2⟩ := hds
  exact ⟨0, ds, rfl, hb, h2, rfl, ha, (o1.mono (T := [g, gd, cb]) (by simp)).trans ho (fun b hb => .inl hb)⟩
 ·rintro r w' ⟨c, ds, w2, rfl, ⟨rfl, ha, ho⟩, hb, hw⟩
  have hw' : w' = w2 := by
   rcases hw with ⟨_, h⟩ | ⟨h, _⟩
   ·exact h
   ·exact absurd rfl h
  subst hw'
  rw [stepRv_4 srtL N draftOf rfl]
  exact ⟨⟨0, rfl⟩, step_wipe (.inr ⟨rfl, rfl⟩) hok hm ha ho⟩
theorem step_5 (w0 w : World) (g gd cb cap N : Nat) (e nx : Nat) (F K : List FuTop.Found) (B : Nat → List UInt8) (hN : 10 ≤ N) (hok : RvOk N ⟨5, e, nx, F, K, B⟩) (h : RvAt w0 g gd cb cap N ⟨5, e, nx, F, K, B⟩ w) :
  Calls Tryz.prog 72 #[.pointer (some ⟨g, 0, none⟩)] w fun r w' => StepAns w0 g gd cb cap N (stepRv srtL N draftOf ⟨5, e, nx, F, K, B⟩) r w' := by
 obtain ⟨fv, kv, sv, done, why, D, hm⟩ := h
 have hsl := slabs_lines hN
 have hbs := hm.bs
 dsimp only at hbs
 subst hbs
 have hl := hm.len
 have hg1 := hm.gn
 have hg2 := hm.gdl
 have hg3 := hm.cbl
 have hlF := hok.lenF
 have hle := hok.e
 have hlK := hok.lenK
 dsimp only at hlF hle hlK
 have hws := hm.only.size
 obtain ⟨rfl, rfl, rfl⟩ := hm.low (by simp)
 refine (rv_Step g 5 _ _ w hm.head rfl (by decide) rfl (ent_rebuild g) (fun c ds w' => Only [g] w w' ∧ match overOf srtL N K with
   | none => c ≠ 0 ∧ ds = rvHead gd 5 e nx fv kv 1 (.pointer none) c
   | some A => c = 0 ∧ ∃ (BB : ArB) (Ls : List (List FuTop.Link)), ds = rvHead gd 6 e 0 fv kv 1 (pt BB.a) 0 ∧ ArAt w' gd BB (ovS 1 e N A Ls A.line) ∧ ∀ b ∈ (arFs BB).flatten, w.heap.size ≤ b) (fun w1 o1 => ?_)).mono ?_
 ·refine (rv_rebuild g gd cb cap e nx fv kv K D w1 (hm.head.only o1 (by simp)) (hm.kr.only0 o1) (hm.dev.only0 o1) (fun b hb => (hm.ko b hb).2) (by omega) (by rw [hl]; exact hN) hle (fun x hx => (hok.bd x (hok.kb x hx)).1) (by omega)).mono ?_
  rintro r w' ⟨ha, ho⟩
  have hoo : Only [g] w w' := (o1.mono (T := [g]) (by simp)).trans ho (fun b hb => .inl hb)
  unfold RebAns at ha
  rw [hl] at ha
  cases hq : overOf srtL N K with
  | none =>
    rw [hq] at ha
    obtain ⟨c, hc, rfl, hb⟩ := ha
    exact ⟨c, _, rfl, hb, (by decide : 2 < 12), hoo, hc, rfl⟩
  | some A =>
    rw [hq] at ha
    obtain ⟨rfl, BB, Ls, hb, haa, hf⟩ := ha
    exact ⟨0, _, rfl, hb, (by decide : 2 < 12), hoo, rfl, BB, Ls, rfl, haa, fun b hb => Nat.le_trans o1.size (hf b hb)⟩
 ·rintro r w' ⟨c, ds, w2, rfl, ⟨ho, hd⟩, hb, hw⟩
  rw [stepRv_5 srtL N draftOf rfl]
  dsimp only
  cases hq : overOf srtL N K with
  | none =>
    rw [hq] at hd
    obtain ⟨hc, rfl⟩ := hd
    rw [if_pos rfl]
    rcases hw with ⟨hc2, _⟩ | ⟨_, rfl⟩
    ·exact absurd hc2 hc
    ·exact StepAns.broken (s := ⟨5, e, nx, F, K, bytesAt D⟩) (RvMem.broken (ph := 5) rfl (by decide) (by decide) hm hb ho)
  | some A =>
    rw [hq] at hd
    obtain ⟨rfl, BB, Ls, rfl, haa, hf⟩ := hd
    rw [if_neg (by simp)]
    have hw' : w' = w2 := by
     rcases hw with ⟨_, h⟩ | ⟨h, _⟩
     ·exact h
     ·exact absurd rfl h
    subst hw'
    exact ⟨⟨0, rfl⟩, fv, kv, pt BB.a, 1, 0, D, hb, hm.fr.only ho (fun b hb h => by simp at h; exact (hm.fo b hb).2 h), hm.kr.only ho (fun b hb h => by simp at h; exact (hm.ko b hb).2 h), hm.dev.only ho (by simp; omega) (by simp; omega), rfl, hl, fun h => (by rcases h with h | h <;> cases h), fun _ => hm.calm (by simp), hm.only.trans ho (fun b hb => .inr (by simp at hb; omega)), hg1, hg2, hg3, hm.fo, hm.ko, fun h => (by have : (6 : Nat) ≤ 2 := h; omega), fun h => (by have : (6 : Nat) ≤ 5 := h; omega), fun _ => ⟨A, BB, Ls, hq, rfl, haa, fun b hb => Nat.le_trans hws (hf b hb)⟩⟩
theorem rv_step (w0 w : World) (g gd cb cap N : Nat) (s : Rv) (hN : 10 ≤ N) (hok : RvOk N s) (h : RvAt w0 g gd cb cap N s w) :
  Calls Tryz.prog 72 #[.pointer (some ⟨g, 0, none⟩)] w fun r w' => StepAns w0 g gd cb cap N (stepRv srtL N draftOf s) r w' := by
 have h7 := hok.ph
 obtain ⟨ph, e, nx, F, K, B⟩ := s
 dsimp only at h7
 by_cases h6 : 6 ≤ ph
 ·rw [stepRv_end srtL N draftOf h6]
  obtain ⟨fv, kv, sv, done, why, D, hm⟩ := h
  refine (rv_Step_end g ph _ w hm.head rfl h6 h7).mono ?_
  rintro r w' ⟨rfl, ho⟩
  exact ⟨⟨12, rfl⟩, fv, kv, sv, done, why, D, hm.head.only ho (by simp), hm.fr.only0 ho, hm.kr.only0 ho, hm.dev.only0 ho, hm.bs, hm.len, hm.held, hm.calm, hm.only.trans0 ho, hm.gn, hm.gdl, hm.cbl, hm.fo, hm.ko, hm.k0, hm.low, fun h => by
   obtain ⟨A, BB, Ls, h1, h2, h3, h4⟩ := hm.up h
   exact ⟨A, BB, Ls, h1, h2, h3.keep0 ho, h4⟩⟩
 ·rcases (show ph = 0 ∨ ph = 1 ∨ ph = 2 ∨ ph = 3 ∨ ph = 4 ∨ ph = 5 by omega) with rfl | rfl | rfl | rfl | rfl | rfl
  ·exact step_0 w0 w g gd cb cap N e nx F K B hok h
  ·exact step_1 w0 w g gd cb cap N e nx F K B hN hok h
  ·exact step_2 w0 w g gd cb cap N e nx F K B hN hok h
  ·exact step_3 w0 w g gd cb cap N e nx F K B hN hok h
  ·exact step_4 w0 w g gd cb cap N e nx F K B hN hok h
  ·exact step_5 w0 w g gd cb cap N e nx F K B hN hok h
end Go.Proofs.YtlggichakafkiaaGreat
namespace Go.Proofs.YtlggichakafkiaaGreat
open Go.BigFrame Go.RowKit Go.Proofs.FuMem Go.Proofs.FuEq
set_option maxRecDepth 100000
def pairC (x : List UInt8 × List UInt8) : List Value := [.string ⟨x.1.toArray⟩, .string ⟨x.2.toArray⟩]
def textC (x : List UInt8) : List Value := [.string ⟨x.toArray⟩]
theorem row_pair {w : World} {A : Option Addr} {n c : Nat} {L : List (List UInt8 × List UInt8)} (h : RowS 118 2 w (.slice A n c) (L.map pairC)) {k : Nat} {x : List UInt8 × List UInt8} (hx : L[k]? = some x) :
  ∃ g, A = some ⟨g, 0, none⟩ ∧ w.cell? ⟨g, k * 2, none⟩ = some (.string ⟨x.1.toArray⟩) ∧ w.cell? ⟨g, k * 2 + 1, none⟩ = some (.string ⟨x.2.toArray⟩) := by
 obtain ⟨hk, hx⟩ := List.getElem?_eq_some_iff.1 hx
 obtain ⟨g, rfl, hc⟩ := h.cell (i := k) (by rw [List.length_map]; exact hk)
 have he : (L.map pairC)[k]'(by rw [List.length_map]; exact hk) = pairC x := by rw [List.getElem_map, hx]
 rw [he] at hc
 exact ⟨g, rfl, hc 0 (by omega), hc 1 (by omega)⟩
theorem row_text {w : World} {A : Option Addr} {n c : Nat} {L : List (List UInt8)} (h : RowS 9 1 w (.slice A n c) (L.map textC)) {k : Nat} {x : List UInt8} (hx : L[k]? = some x) :
  ∃ g, A = some ⟨g, 0, none⟩ ∧ w.cell? ⟨g, k, none⟩ = some (.string ⟨x.toArray⟩) := by
 obtain ⟨hk, hx⟩ := List.getElem?_eq_some_iff.1 hx
 obtain ⟨g, rfl, hc⟩ := h.cell (i := k) (by rw [List.length_map]; exact hk)
 have he : (L.map textC)[k]'(by rw [List.length_map]; exact hk) = textC x := by rw [List.getElem_map, hx]
 rw [he] at hc
 have := hc 0 (by omega)
 rw [Nat.mul_one] at this
 exact ⟨g, rfl, this⟩
theorem pair_equal (a b c d : ByteArray) (w : World) :
  (Op.equalIn 10000 118 (.agg #[.string a, .string b]) (.agg #[.string c, .string d])).run Tryz.prog w = .ok ((a.toList == c.toList) && (b.toList == d.toList)) w := by
 rw [run_equalIn_struct w 9999 118 _ _ (by kernel_rfl) (by kernel_rfl)]
 have hf : (Tryz.prog.fieldsOf 118).toList.map (fun f => (f.type, f.offset, decide (f.name = "_"))) = [(9, 0, false), (9, 1, false)] := by kernel_rfl
 generalize (Tryz.prog.fieldsOf 118).toList = fs at *
 obtain ⟨f0, f1, rfl⟩ : ∃ f0 f1, fs = [f0, f1] := by
  have hl := congrArg List.length hf
  rw [List.length_map] at hl
  rcases fs with _ | ⟨f0, _ | ⟨f1, _ | ⟨f2, fs⟩⟩⟩
  ·simp at hl
  ·simp at hl
  ·exact ⟨_, _, rfl⟩
  ·simp at hl
 simp only [List.map_cons, List.map_nil, List.cons.injEq, Prod.mk.injEq, decide_eq_false_iff_not, and_true] at hf
 obtain ⟨⟨t0, o0, n0⟩, ⟨t1', o1, n1⟩⟩ := hf
 have hpi : ∀ (xs : Array Value) (k : Nat) (v : Value), xs[k]? = some v → (part 9 xs k).run Tryz.prog w = .ok v w := fun xs k v h => by
  simp [part, isAgg, run_underlying Tryz.underlying9, h]
 have hqi : ∀ a b : ByteArray, (Op.equalIn 9999 9 (.string a) (.string b)).run Tryz.prog w = .ok (a.toList == b.toList) w := fun a b => run_equalIn_string (P := Tryz.prog) w 9998 9 a b Tryz.underlying9
 have key := eqFields_cons (P := Tryz.prog) 9999 #[.string a, .string b] #[.string c, .string d]
 have := key f0 _ _ _ _ w n0 (by rw [t0, o0]; exact hpi _ 0 _ rfl) (by rw [t0, o0]; exact hpi _ 0 _ rfl) (by rw [t0]; exact hqi _ _) _
  (key f1 _ _ _ _ w n1 (by rw [t1', o1]; exact hpi _ 1 _ rfl) (by rw [t1', o1]; exact hpi _ 1 _ rfl) (by rw [t1']; exact hqi _ _) _ (eqFields_nil _ _ _ w))
 rw [this]
 simp
theorem neq_pair (a b : ByteArray) (w : World) :
  (binOp .neq 118 (.agg #[.string a, .string b]) (.agg #[.string a, .string b])).run Tryz.prog w = .ok (.bool false) w := by
 rw [run_neq_struct, pair_equal]
 simp
theorem pairGuard : Tryz.prog.eqGuardType Tryz.prog.depth 118 = false := by kernel_rfl
set_option maxHeartbeats 800000 in
theorem law0_SamePairs (v v' : Value) (L : List (List UInt8 × List UInt8)) (w : World) (h : RowS 118 2 w v (L.map pairC)) (h' : RowS 118 2 w v' (L.map pairC)) (hn : L.length ≤ 1000000) :
  Calls Tryz.prog 76 #[v, v'] w fun e w' => e = .returned (.bool true) ∧ Only [] w w' := by
 obtain ⟨A, c, rfl, _, _⟩ := h.slice
 obtain ⟨A', c', rfl, _, _⟩ := h'.slice
 obtain ⟨n, hnl⟩ : ∃ n, n = L.length := ⟨_, rfl⟩
 rw [List.length_map, ← hnl] at h h' ⊢
 have H1 := hq9 h
 have H2 := hq9 h'
 have HL := hq9 hnl
 have hn' : n ≤ 1000000 := by omega
 clear h h' hnl
 go_enter Tryz.func76, Tryz.ntmps76
 go_wp2
 go_loopw [5] (fun i wr => ∃ j : Nat, j ≤ n ∧ i = .int .i64 j ∧ Only [] w wr) (fun i _ => n - (intOf i).toNat)
 case atStart => exact ⟨0, Nat.zero_le _, rfl, Only.refl _ _⟩
 case round =>
  obtain ⟨j, hj, rfl, on⟩ := hrel
  by_cases hlt : j < n
  ·have y1 : (0 : Int) ≤ (j : Int) := by omega
   have y2 : (j : Int) < (n : Int) := by omega
   have y3 : decide ((j : Int) < (n : Int)) = true := by rw [decide_eq_true_eq]; omega
   obtain ⟨x, hx⟩ : ∃ x, L[j]? = some x := ⟨_, List.getElem?_eq_getElem (by have := HL.out; omega)⟩
   obtain ⟨b1, rfl, x0, x1⟩ := row_pair (H1.out.only0 on) hx
   obtain ⟨b2, rfl, z0, z1⟩ := row_pair (H2.out.only0 on) hx
   generalize (⟨x.1.toArray⟩ : ByteArray) = a at *
   generalize (⟨x.2.toArray⟩ : ByteArray) = b at *
   have hq := fun w => neq_pair a b w
   have hg := fun (w : World) (x y : Operand) => run_eqGuard_agg (P := Tryz.prog) w .neq 118 x y #[.string a, .string b] #[.string a, .string b] pairGuard
   have ON := hq9 on
   clear hx on
   go_wp2
   go_quiet (fail)
   go_wp2
   go_roundw
   ·exact ⟨j + 1, by omega, by simp, ON.out.drewN _⟩
   ·simp [intOf]
    omega
  ·obtain rfl : j = n := by omega
   have y3 : decide ((j : Int) < (j : Int)) = false := by simp
   have ON := hq9 on
   clear on
   go_wp2
   go_ret
   exact ⟨rfl, ON.out⟩
set_option maxHeartbeats 800000 in
theorem law0_SameTexts (v v' : Value) (L : List (List UInt8)) (w : World) (h : RowS 9 1 w v (L.map textC)) (h' : RowS 9 1 w v' (L.map textC)) (hn : L.length ≤ 1000000) :
  Calls Tryz.prog 77 #[v, v'] w fun e w' => e = .returned (.bool true) ∧ Only [] w w' := by
 obtain ⟨A, c, rfl, _, _⟩ := h.slice
 obtain ⟨A', c', rfl, _, _⟩ := h'.slice
 obtain ⟨n, hnl⟩ : ∃ n, n = L.length := ⟨_, rfl⟩
 rw [List.length_map, ← hnl] at h h' ⊢
 have H1 := hq9 h
 have H2 := hq9 h'
 have HL := hq9 hnl
 have hn' : n ≤ 1000000 := by omega
 clear h h' hnl
 go_enter Tryz.func77, Tryz.ntmps77
 go_wp2
 go_loopw [5] (fun i wr => ∃ j : Nat, j ≤ n ∧ i = .int .i64 j ∧ Only [] w wr) (fun i _ => n - (intOf i).toNat)
 case atStart => exact ⟨0, Nat.zero_le _, rfl, Only.refl _ _⟩
 case round =>
  obtain ⟨j, hj, rfl, on⟩ := hrel
  by_cases hlt : j < n
  ·have y1 : (0 : Int) ≤ (j : Int) := by omega
   have y2 : (j : Int) < (n : Int) := by omega
   have y3 : decide ((j : Int) < (n : Int)) = true := by rw [decide_eq_true_eq]; omega
   obtain ⟨x, hx⟩ : ∃ x, L[j]? = some x := ⟨_, List.getElem?_eq_getElem (by have := HL.out; omega)⟩
   obtain ⟨b1, rfl, x0⟩ := row_text (H1.out.only0 on) hx
   obtain ⟨b2, rfl, z0⟩ := row_text (H2.out.only0 on) hx
   generalize (⟨x.toArray⟩ : ByteArray) = a at *
   have q1 : (a.toList != a.toList) = false := by simp
   have ON := hq9 on
   clear hx on
   go_wp2
   go_quiet (fail)
   go_wp2
   go_roundw
   ·exact ⟨j + 1, by omega, by simp, ON.out.drewN _⟩
   ·simp [intOf]
    omega
  ·obtain rfl : j = n := by omega
   have y3 : decide ((j : Int) < (j : Int)) = false := by simp
   have ON := hq9 on
   clear on
   go_wp2
   go_ret
   exact ⟨rfl, ON.out⟩
set_option maxHeartbeats 800000 in
theorem law0_SameShelf (pv qv pv' qv' : Value) (L : List (List UInt8 × List UInt8)) (Q : List (List UInt8)) (w : World) (h : RowS 118 2 w pv (L.map pairC)) (h' : RowS 118 2 w pv' (L.map pairC)) (hq : RowS 9 1 w qv (Q.map textC)) (hq' : RowS 9 1 w qv' (Q.map textC)) (hn : L.length ≤ 1000000) (hm : Q.length ≤ 1000000) :
  Calls Tryz.prog 37 #[.agg #[pv, qv], .agg #[pv', qv']] w fun e w' => e = .returned (.bool true) ∧ Only [] w w' := by
 have HP := hq9 (fun w h h' => law0_SamePairs pv pv' L w h h' hn)
 have HT := hq9 (fun w h h' => law0_SameTexts qv qv' Q w h h' hm)
 have H1 := hq9 h
 have H2 := hq9 h'
 have H3 := hq9 hq
 have H4 := hq9 hq'
 obtain ⟨A1, c1, rfl, _, _⟩ := h.slice
 obtain ⟨A2, c2, rfl, _, _⟩ := h'.slice
 obtain ⟨A3, c3, rfl, _, _⟩ := hq.slice
 obtain ⟨A4, c4, rfl, _, _⟩ := hq'.slice
 simp only [List.length_map] at *
 generalize L.length = n at *
 generalize Q.length = m at *
 have OX := hq9 (((Only.refl [] w).alloc (.cells #[.slice A1 n c1, .slice A3 m c3] 60)).alloc (.cells #[.slice A2 n c2, .slice A4 m c4] 60))
 have BX := hq9 ((Blk.new w 60 #[.slice A1 n c1, .slice A3 m c3]).only ((Only.refl [] _).alloc (.cells #[.slice A2 n c2, .slice A4 m c4] 60)) (by simp))
 have BY := hq9 (show Blk ((w.alloc (.cells #[.slice A1 n c1, .slice A3 m c3] 60)).alloc (.cells #[.slice A2 n c2, .slice A4 m c4] 60)) (w.heap.size + 1) 60 #[.slice A2 n c2, .slice A4 m c4] from by simpa using Blk.new (w.alloc (.cells #[.slice A1 n c1, .slice A3 m c3] 60)) 60 #[.slice A2 n c2, .slice A4 m c4])
 have x0 := BX.out.cell 0
 have x1 := BX.out.cell 1
 have y0 := BY.out.cell 0
 have y1 := BY.out.cell 1
 clear h h' hq hq' hn hm
 go_enter Tryz.func37, Tryz.ntmps37
 go_wp2_with fail
 generalize ((w.alloc _).alloc _) = w1 at *
 refine (HP.out w1 (H1.out.only0 OX.out) (H2.out.only0 OX.out)).mono ?_
 rintro r w2 ⟨rfl, o2⟩
 have O2 := hq9 (OX.out.trans0 o2)
 have X2 := BX.out.only o2 (by simp)
 have Y2 := BY.out.only o2 (by simp)
 have x0 := X2.cell 0
 have x1 := X2.cell 1
 have y0 := Y2.cell 0
 have y1 := Y2.cell 1
 clear o2 X2 Y2
 go_wp2_with fail
 refine (HT.out w2 (H3.out.only0 O2.out) (H4.out.only0 O2.out)).mono ?_
 rintro r w3 ⟨rfl, o3⟩
 have O3 := hq9 (O2.out.trans0 o3)
 clear o3
 go_wp2
 go_ret
 exact ⟨rfl, O3.out⟩
end Go.Proofs.YtlggichakafkiaaGreat
namespace Go.Proofs.YtlggichakafkiaaGreat
open Go.BigFrame Go.RowKit Go.Proofs.FuMem Go.Proofs.FuTop Go.Proofs.FuNvm Go.Proofs.FuCode Go.Proofs.FuBlock Go.Proofs.FuClass
set_option maxRecDepth 100000
theorem pairRec : ∃ i z, Tryz.prog.info? 118 = some i ∧ i.zero = some z ∧ i.size = 2 ∧ z.cells.size = 2 ∧ i.bytes ≤ 64 := ⟨_, _, rfl, rfl, rfl, rfl, by decide⟩
theorem textRec : ∃ i z, Tryz.prog.info? 9 = some i ∧ i.zero = some z ∧ i.size = 1 ∧ z.cells.size = 1 ∧ i.bytes ≤ 64 := ⟨_, _, rfl, rfl, rfl, rfl, by decide⟩
theorem push_pair {w : World} {v : Value} {L : List (List UInt8 × List UInt8)} (h : RowS 118 2 w v (L.map pairC)) (hn : L.length ≤ 1000000) {A : Option Addr} {x : List UInt8 × List UInt8} (hr : Sl w A 2 (pairC x)) :
  ∃ v' w', (Builtin.append_ #[48, 48] 48 #[v, .slice A 1 1]).run Tryz.prog w = .ok v' w' ∧ RowS 118 2 w' v' ((L ++ [x]).map pairC) ∧ Only v.ownBlock.toList w w' ∧ (v'.ownBlock = v.ownBlock ∨ v'.ownBlock = some w.heap.size) := by
 obtain ⟨i, z, hi, hz, hs, hzs, hb⟩ := pairRec
 have := h.push (P := Tryz.prog) 48 48 i z i.bytes Tryz.underlying48 hi hz hs rfl hzs (by decide) A 1 (pairC x) hr (by intro u hu; simp [pairC] at hu; rcases hu with rfl | rfl <;> rfl) (by rw [List.length_map]; unfold maxLen; omega) (by
  rw [List.length_map]
  calc (L.length + 1) * i.bytes ≤ 1000001 * 64 := Nat.mul_le_mul (by omega) hb
   _ ≤ _ := by decide)
 simpa using this
theorem push_text {w : World} {v : Value} {L : List (List UInt8)} (h : RowS 9 1 w v (L.map textC)) (hn : L.length ≤ 1000000) {A : Option Addr} {x : List UInt8} (hr : Sl w A 1 (textC x)) :
  ∃ v' w', (Builtin.append_ #[58, 58] 58 #[v, .slice A 1 1]).run Tryz.prog w = .ok v' w' ∧ RowS 9 1 w' v' ((L ++ [x]).map textC) ∧ Only v.ownBlock.toList w w' ∧ (v'.ownBlock = v.ownBlock ∨ v'.ownBlock = some w.heap.size) := by
 obtain ⟨i, z, hi, hz, hs, hzs, hb⟩ := textRec
 have := h.push (P := Tryz.prog) 58 58 i z i.bytes Tryz.underlying58 hi hz hs rfl hzs (by decide) A 1 (textC x) hr (by intro u hu; simp [textC] at hu; rw [hu]; rfl) (by rw [List.length_map]; unfold maxLen; omega) (by
  rw [List.length_map]
  calc (L.length + 1) * i.bytes ≤ 1000001 * 64 := Nat.mul_le_mul (by omega) hb
   _ ≤ _ := by decide)
 simpa using this
theorem shelfInfo : (Tryz.prog.info? 60).map (·.size) = some 2 := by kernel_rfl
theorem take_fm {α β : Type} {L : List α} {i : Nat} {x : α} (f : α → Option β) (hx : L[i]? = some x) : (L.take (i + 1)).filterMap f = (L.take i).filterMap f ++ (f x).toList := by
 rw [List.take_add_one, hx, List.filterMap_append]
 congr 1
theorem fm_len {α β : Type} (f : α → Option β) (L : List α) (i n : Nat) (h : L.length ≤ n) : ((L.take i).filterMap f).length ≤ n := Nat.le_trans (List.length_filterMap_le _ _) (Nat.le_trans (by rw [List.length_take]; omega) h)
structure ShAt (w : World) (gs rs lo hi : Nat) (pv qv : Value) (P : List (List UInt8 × List UInt8)) (Q : List (List UInt8)) (w' : World) : Prop where
 s : Blk w' gs 60 #[pv, qv]
 r : Blk w' rs 60 #[.slice none 0 0, .slice none 0 0]
 p : RowS 118 2 w' pv (P.map pairC)
 q : RowS 9 1 w' qv (Q.map textC)
 po : ∀ b, pv.ownBlock = some b → lo ≤ b
 qo : ∀ b, qv.ownBlock = some b → hi ≤ b
 only : Only [] w w'
theorem ShAt.keep {w w1 w2 : World} {gs rs lo hi : Nat} {pv qv : Value} {P : List (List UInt8 × List UInt8)} {Q : List (List UInt8)} (h : ShAt w gs rs lo hi pv qv P Q w1) (o : Only [] w1 w2) : ShAt w gs rs lo hi pv qv P Q w2 :=
 ⟨h.s.only o (by simp), h.r.only o (by simp), h.p.only0 o, h.q.only0 o, h.po, h.qo, h.only.trans0 o⟩
theorem ShAt.push {w w1 w2 : World} {gs rs lo hi : Nat} {pv qv pv' : Value} {P P' : List (List UInt8 × List UInt8)} {Q : List (List UInt8)} (h : ShAt w gs rs lo hi pv qv P Q w1) (h1 : w.heap.size ≤ gs) (h2 : w.heap.size ≤ rs) (h3 : gs ≠ rs) (h4 : gs < lo ∧ rs < lo) (h5 : lo ≤ w1.heap.size) (hq0 : qv = .slice none 0 0)
  (hr : RowS 118 2 w2 pv' (P'.map pairC)) (o : Only pv.ownBlock.toList w1 w2) (hn : pv'.ownBlock = pv.ownBlock ∨ pv'.ownBlock = some w1.heap.size) : ShAt w gs rs lo hi pv' qv P' Q (w2.setCell ⟨gs, 0, none⟩ pv') := by
 have os := (Only.refl [gs] w2).setCell (p := ⟨gs, 0, none⟩) (.inl (by simp)) pv'
 have hl : ∀ b ∈ pv.ownBlock.toList, lo ≤ b := fun b hb => h.po b (own_mem.1 hb)
 have hpo : ∀ b, pv'.ownBlock = some b → lo ≤ b := fun b hb => by
  rcases hn with h6 | h6
  ·exact h.po b (by rw [← h6]; exact hb)
  ·rw [h6] at hb
   have := Option.some.inj hb
   omega
 have hs := h.s.only o (fun hb => by have := hl gs hb; omega)
 have hgl := hs.lt
 refine ⟨hs.set 0 pv', (h.r.only o (fun hb => by have := hl rs hb; omega)).only os (by simpa using fun e => h3 e.symm), hr.only os (fun b hb h => by have := hpo b hb; simp at h; omega), ?_, hpo, h.qo, (h.only.trans o (fun b hb => .inr (by have := hl b hb; omega))).trans os (fun b hb => .inr (by simp at hb; omega))⟩
 have hq := h.q
 subst hq0
 have : Q = [] := by
  have := hq.sl.1
  rw [List.length_map] at this
  exact List.eq_nil_of_length_eq_zero this.symm
 subst this
 exact RowS.nil _ _ _
theorem ShAt.push2 {w w1 w2 : World} {gs rs lo hi : Nat} {pv qv qv' : Value} {P : List (List UInt8 × List UInt8)} {Q Q' : List (List UInt8)} (h : ShAt w gs rs lo hi pv qv P Q w1) (h1 : w.heap.size ≤ gs) (h2 : w.heap.size ≤ rs) (h3 : gs ≠ rs) (h4 : gs < lo ∧ rs < lo) (h6 : lo ≤ hi) (h7 : ∀ b, pv.ownBlock = some b → b < hi) (h5 : hi ≤ w1.heap.size)
  (hr : RowS 9 1 w2 qv' (Q'.map textC)) (o : Only qv.ownBlock.toList w1 w2) (hn : qv'.ownBlock = qv.ownBlock ∨ qv'.ownBlock = some w1.heap.size) : ShAt w gs rs lo hi pv qv' P Q' (w2.setCell ⟨gs, 1, none⟩ qv') := by
 have os := (Only.refl [gs] w2).setCell (p := ⟨gs, 1, none⟩) (.inl (by simp)) qv'
 have hl : ∀ b ∈ qv.ownBlock.toList, hi ≤ b := fun b hb => h.qo b (own_mem.1 hb)
 have hpo : ∀ b, qv'.ownBlock = some b → hi ≤ b := fun b hb => by
  rcases hn with h6 | h6
  ·exact h.qo b (by rw [← h6]; exact hb)
  ·rw [h6] at hb
   have := Option.some.inj hb
   omega
 have hs := h.s.only o (fun hb => by have := hl gs hb; omega)
 refine ⟨hs.set 1 qv', (h.r.only o (fun hb => by have := hl rs hb; omega)).only os (by simpa using fun e => h3 e.symm), (h.p.only o (fun b hb hb2 => by have := h7 b hb; have := hl b hb2; omega)).only os (fun b hb h8 => by have := h.po b hb; simp at h8; omega), hr.only os (fun b hb h => by have := hpo b hb; simp at h; omega), h.po, hpo, (h.only.trans o (fun b hb => .inr (by have := hl b hb; omega))).trans os (fun b hb => .inr (by simp at hb; omega))⟩
set_option maxHeartbeats 4000000 in
theorem arena_Shelf (gd cb cap : Nat) (D : Dev) (B : ArB) (S : ArS) (w : World) (h : ArAt w gd B S) (hd : DevAt w gd cb cap D) (hk : ∀ k, k ∈ S.T ∨ k ∈ S.L → (-9223372036854775808 ≤ k.cls ∧ k.cls ≤ 9223372036854775807) ∧ k.line ≤ 100000) (hT : S.T.length ≤ 1000) (hL : S.L.length ≤ 1000) :
  Calls Tryz.prog 65 #[.pointer (some ⟨B.a, 0, none⟩)] w fun r w' => ∃ pv qv, r = .returned (.agg #[pv, qv]) ∧ RowS 118 2 w' pv ((shelfOf (bytesAt D) S.T S.L).pairs.map pairC) ∧ RowS 9 1 w' qv ((shelfOf (bytesAt D) S.T S.L).queue.map textC) ∧ Only [] w w' ∧ (∀ b, pv.ownBlock = some b → w.heap.size ≤ b) ∧ (∀ b, qv.ownBlock = some b → w.heap.size ≤ b) := by
 have HA := hq9 h
 have HD := hq9 hd
 have HK := hq9 hk
 have HT := hq9 hT
 have HL := hq9 hL
 obtain ⟨b1, b2, o2⟩ := two_new w 60 60 #[.slice none 0 0, .slice none 0 0] #[.slice none 0 0, .slice none 0 0]
 have BR := hq9 b1
 have BS := hq9 b2
 have O2 := hq9 o2
 clear h hd hk hT hL b1 b2 o2
 go_enter Tryz.func65, Tryz.ntmps65
 go_wp2_with fail
 generalize ((w.alloc _).alloc _) = w1 at *
 refine (arena_Table w1 (HA.out.keep0 O2.out)).mono ?_
 rintro r w' ⟨rfl, rfl⟩
 go_wp2_with fail
 refine (tab_All B.t B.ts S.T w1 (HA.out.keep0 O2.out).tab (by have := HT.out; omega)).mono ?_
 rintro r w2 ⟨tv, rfl, hr2, hf2, ho2⟩
 have R2 := hq9 hr2
 have F2 := hq9 hf2
 have O3 := hq9 (O2.out.trans0 ho2)
 have S2 := hq9 (show ShAt w (w.heap.size + 1) w.heap.size w2.heap.size w2.heap.size (.slice none 0 0) (.slice none 0 0) [] [] w2 from ⟨BS.out.only ho2 (by simp), BR.out.only ho2 (by simp), RowS.nil _ _ _, RowS.nil _ _ _, fun b hb => (by cases hb), fun b hb => (by cases hb), O2.out.trans0 ho2⟩)
 have GS1 := hq9 (show w.heap.size + 1 < w1.heap.size from BS.out.lt)
 have HG := hq9 (show w.heap.size + 1 < w2.heap.size from Nat.lt_of_lt_of_le BS.out.lt ho2.size)
 obtain ⟨A2, c2, hv2, _, _⟩ := hr2.slice
 rw [List.length_map] at hv2
 obtain ⟨n, hn⟩ : ∃ n, n = S.T.length := ⟨_, rfl⟩
 rw [← hn] at hv2
 subst hv2
 have HN := hq9 hn
 have hn1 : n ≤ 1000 := by have := HT.out; omega
 clear hr2 hf2 ho2 hn BR BS
 obtain ⟨fp, hfp⟩ : ∃ fp : FuTop.Link → Option (List UInt8 × List UInt8), fp = fun k => (FuTop.valOf (bytesAt D) 1 k).map fun v => (k.key, v) := ⟨_, rfl⟩
 have HFP := hq9 hfp
 clear hfp
 go_wp2_with fail
 go_loopw [16] (fun vi wr => ∃ (i : Nat) (pv : Value), vi = .int .i64 i ∧ i ≤ n ∧ ShAt w (w.heap.size + 1) w.heap.size w2.heap.size w2.heap.size pv (.slice none 0 0) ((S.T.take i).filterMap fp) [] wr ∧ w2.heap.size ≤ wr.heap.size ∧ RowS 70 5 wr (.slice A2 n c2) (S.T.map linkC)) (fun vi _ => n - (intOf vi).toNat)
 case atStart => exact ⟨0, .slice none 0 0, rfl, by omega, by simpa using S2.out, Nat.le_refl _, R2.out⟩
 case round =>
  obtain ⟨i, pv, rfl, hin, hsh, hsz, hrw⟩ := hrel
  have SH := hq9 hsh
  have SZ := hq9 hsz
  have RW := hq9 hrw
  clear hsh hsz hrw
  by_cases hlt : i < n
  ·have q1 : decide ((i : Int) < (n : Int)) = true := by go_num
   obtain ⟨x, hx⟩ : ∃ x, S.T[i]? = some x := ⟨_, List.getElem?_eq_getElem (by have := HN.out; omega)⟩
   obtain ⟨bl, rfl, e0, e1, e2, e3, e4⟩ := row_link RW.out hx
   have HX := hq9 hx
   have HTK := hq9 (take_fm fp hx)
   have HKX := hq9 (HK.out x (.inl (List.mem_of_getElem? hx)))
   have y1 : (0 : Int) ≤ (i : Int) := by omega
   have y2 : (i : Int) < (n : Int) := by omega
   have hwr : IntKind.i64.wrap ((i : Int) + 1) = (i : Int) + 1 := by rw [IntKind.wrap_i64]; omega
   obtain ⟨kb, hkb⟩ : ∃ kb, kb = (⟨x.key.toArray⟩ : ByteArray) := ⟨_, rfl⟩
   rw [← hkb] at e0
   have HVX := hq9 (show linkV x = .agg #[.string kb, .int .u64 x.id, .int .u64 x.ver, .int .i64 x.line, .int .i64 x.cls] by rw [hkb]; rfl)
   have HKB := hq9 hkb
   clear hx hkb
   have BX := hq9 (Blk.new wr 70 #[.string kb, .int .u64 x.id, .int .u64 x.ver, .int .i64 x.line, .int .i64 x.cls])
   have OX := hq9 ((Only.refl [] wr).alloc (.cells #[.string kb, .int .u64 x.id, .int .u64 x.ver, .int .i64 x.line, .int .i64 x.cls] 70))
   have z0 := BX.out.cell 0
   have z1 := BX.out.cell 1
   have z2 := BX.out.cell 2
   have z3 := BX.out.cell 3
   have z4 := BX.out.cell 4
   go_wp2_with fail
   clear z0 z1 z2 z3 z4 e0 e1 e2 e3 e4
   generalize (wr.alloc _) = w3 at *
   have HC := arena_value gd cb cap x 1 D B S w3 (HA.out.keep0 (SH.out.only.trans0 OX.out)) (HD.out.only0 (SH.out.only.trans0 OX.out)) HKX.out.1 HKX.out.2
   rw [HVX.out] at HC
   refine HC.mono ?_
   clear HC
   rintro r w4 ⟨⟨vs, ok, rfl, hva⟩, o4⟩
   have HVA := hq9 hva
   have SH4 := hq9 ((SH.out.keep OX.out).keep o4)
   have BX4 := hq9 (BX.out.only o4 (by simp))
   have RW4 := hq9 ((RW.out.only0 OX.out).only0 o4)
   have SZ4 := hq9 (Nat.le_trans SZ.out (Nat.le_trans OX.out.size o4.size))
   clear hva o4
   cases ok with
   | false =>
     have HF := hq9 (show fp x = none by rw [HFP.out]; show (FuTop.valOf (bytesAt D) 1 x).map _ = none; rw [HVA.out]; rfl)
     go_wp2
     go_roundw
     case rel => exact ⟨i + 1, pv, by go_num, by omega, by rw [HTK.out, HF.out]; simpa using SH4.out, SZ4.out, RW4.out⟩
     case measure => simp only [intOf]; omega
   | true =>
     have HF := hq9 (show fp x = some (x.key, vs) by rw [HFP.out]; show (FuTop.valOf (bytesAt D) 1 x).map _ = _; rw [HVA.out]; rfl)
     have k0 := BX4.out.cell 0
     have hsv := SH4.out.p
     obtain ⟨Ap, cp, hpv, _, _⟩ := hsv.slice
     obtain ⟨np, hnp⟩ : ∃ np, np = (((S.T.take i).filterMap fp).map pairC).length := ⟨_, rfl⟩
     rw [← hnp] at hpv
     have HPV := hq9 hpv
     have s0 : w4.cell? ⟨w.heap.size + 1, 0, none⟩ = some (.slice Ap np cp) := by rw [← HPV.out]; exact SH4.out.s.cell 0
     obtain ⟨vb, hvb⟩ : ∃ vb, vb = (⟨vs.toArray⟩ : ByteArray) := ⟨_, rfl⟩
     rw [← hvb]
     have oa := (Only.refl [] w4).alloc (.cells #[.string kb, .string vb] 118)
     have SHa := SH4.out.keep oa
     obtain ⟨v5, w5, hr5, r5, o5, l5⟩ := push_pair (w := w4.alloc (.cells #[.string kb, .string vb] 118)) (x := (x.key, vs)) SHa.p (by have := fm_len fp S.T i 1000 HT.out; omega) (A := some ⟨w4.heap.size, 0, none⟩) (by
      have e : pairC (x.key, vs) = [.string kb, .string vb] := by rw [HKB.out, hvb]; rfl
      rw [e]
      exact Sl.of_blk (Blk.new w4 118 #[.string kb, .string vb]) 0 rfl (by simp))
     have hlo : w2.heap.size ≤ (w4.alloc (.cells #[.string kb, .string vb] 118)).heap.size := Nat.le_trans SZ4.out oa.size
     have S5 := hq9 (SHa.push (P' := (S.T.take i).filterMap fp ++ [(x.key, vs)]) (by omega) (by omega) (by omega) (by have := HG.out; omega) hlo rfl r5 o5 l5)
     have hown5 : ∀ b ∈ pv.ownBlock.toList, w2.heap.size ≤ b := fun b hb => SHa.po b (own_mem.1 hb)
     have B5 := SHa.s.only o5 (fun hb => by have := hown5 _ hb; have := HG.out; omega)
     have RWa := (RW4.out.only0 oa).only o5 (fun b hb h => by have := hown5 b h; have := R2.out.lt b hb; omega)
     have hgl5 := B5.lt
     have os5 := (Only.refl [w.heap.size + 1] w5).setCell (p := ⟨w.heap.size + 1, 0, none⟩) (.inl (by simp)) v5
     have RW5 := hq9 (RWa.only os5 (fun b hb h => by have := F2.out b hb; have := GS1.out; simp at h; omega))
     have SZ5 := hq9 (Nat.le_trans hlo (Nat.le_trans o5.size os5.size))
     have s5 : w5.cell? ⟨w.heap.size + 1, 0, none⟩ = some pv := B5.cell 0
     have f5 := B5.frozen 0
     rw [HPV.out] at hr5 s5
     obtain ⟨A6, c6, hv6, _, _⟩ := r5.slice
     obtain ⟨n6, hn6⟩ : ∃ n6, v5 = .slice A6 n6 c6 := ⟨_, hv6⟩
     clear hv6
     subst hn6
     clear hsv hnp hpv hvb oa SHa r5 o5 l5 hlo hown5 B5 RWa hgl5 os5
     go_wp2_with (at_builtin; refine wpList_append_run _ rfl (.tmp 28) (.tmp 33) 48 rfl _ _ rfl rfl _ _ hr5 ?_)
     clear hr5 s5 f5 s0 k0
     go_roundw
     case rel => exact ⟨i + 1, _, by go_num, by omega, by rw [HTK.out, HF.out]; exact S5.out, SZ5.out, RW5.out⟩
     case measure => simp only [intOf]; omega
  ·have q1 : decide ((i : Int) < (n : Int)) = false := by go_num
   have HI := hq9 (show i = S.T.length by have := HN.out; omega)
   have HPE := hq9 (show (S.T.take i).filterMap fp = S.T.filterMap fp by rw [HI.out, List.take_length])
   go_wp2_with fail
   refine (arena_Line wr (HA.out.keep0 SH.out.only)).mono ?_
   rintro r w' ⟨rfl, rfl⟩
   go_wp2_with fail
   refine (line_All B.l B.lv S.L wr (HA.out.keep0 SH.out.only).line (by have := HL.out; omega)).mono ?_
   rintro r w5 ⟨lv, rfl, hr5, hf5, ho5⟩
   have R5 := hq9 hr5
   have F5 := hq9 hf5
   have PLT := hq9 (show ∀ b, pv.ownBlock = some b → b < w5.heap.size from fun b hb => Nat.lt_of_lt_of_le (SH.out.p.lt b hb) ho5.size)
   have SZW := hq9 (Nat.le_trans SZ.out ho5.size)
   have GS2 := hq9 (show w.heap.size + 1 < wr.heap.size from SH.out.s.lt)
   have S5 := hq9 (show ShAt w (w.heap.size + 1) w.heap.size w2.heap.size w5.heap.size pv (.slice none 0 0) (S.T.filterMap fp) [] w5 from by
    have := SH.out.keep ho5
    rw [HPE.out] at this
    exact ⟨this.s, this.r, this.p, this.q, this.po, fun b hb => (by cases hb), this.only⟩)
   obtain ⟨A5, c5, hv5, _, _⟩ := hr5.slice
   rw [List.length_map] at hv5
   obtain ⟨m, hm⟩ : ∃ m, m = S.L.length := ⟨_, rfl⟩
   rw [← hm] at hv5
   subst hv5
   have HM := hq9 hm
   have hm1 : m ≤ 1000 := by have := HL.out; omega
   clear hr5 hf5 ho5 hm q1
   obtain ⟨fq, hfq⟩ : ∃ fq : FuTop.Link → Option (List UInt8), fq = FuTop.valOf (bytesAt D) 2 := ⟨_, rfl⟩
   have HFQ := hq9 hfq
   clear hfq
   go_wp2_with fail
   go_loopw [41] (fun vi wr => ∃ (i : Nat) (qv : Value), vi = .int .i64 i ∧ i ≤ m ∧ ShAt w (w.heap.size + 1) w.heap.size w2.heap.size w5.heap.size pv qv (S.T.filterMap fp) ((S.L.take i).filterMap fq) wr ∧ w5.heap.size ≤ wr.heap.size ∧ RowS 70 5 wr (.slice A5 m c5) (S.L.map linkC)) (fun vi _ => m - (intOf vi).toNat)
   case atStart => exact ⟨0, .slice none 0 0, rfl, by omega, by simpa using S5.out, Nat.le_refl _, R5.out⟩
   case round =>
    obtain ⟨i, qv, rfl, hin, hsh, hsz, hrw⟩ := hrel
    have SH := hq9 hsh
    have SZ := hq9 hsz
    have RW := hq9 hrw
    clear hsh hsz hrw
    by_cases hlt : i < m
    ·have q1 : decide ((i : Int) < (m : Int)) = true := by go_num
     obtain ⟨x, hx⟩ : ∃ x, S.L[i]? = some x := ⟨_, List.getElem?_eq_getElem (by have := HM.out; omega)⟩
     obtain ⟨bl, rfl, e0, e1, e2, e3, e4⟩ := row_link RW.out hx
     have HX := hq9 hx
     have HTK := hq9 (take_fm fq hx)
     have HKX := hq9 (HK.out x (.inr (List.mem_of_getElem? hx)))
     have y1 : (0 : Int) ≤ (i : Int) := by omega
     have y2 : (i : Int) < (m : Int) := by omega
     have hwr : IntKind.i64.wrap ((i : Int) + 1) = (i : Int) + 1 := by rw [IntKind.wrap_i64]; omega
     obtain ⟨kb, hkb⟩ : ∃ kb, kb = (⟨x.key.toArray⟩ : ByteArray) := ⟨_, rfl⟩
     rw [← hkb] at e0
     have HVX := hq9 (show linkV x = .agg #[.string kb, .int .u64 x.id, .int .u64 x.ver, .int .i64 x.line, .int .i64 x.cls] by rw [hkb]; rfl)
     have HKB := hq9 hkb
     clear hx hkb
     have BX := hq9 (Blk.new wr 70 #[.string kb, .int .u64 x.id, .int .u64 x.ver, .int .i64 x.line, .int .i64 x.cls])
     have OX := hq9 ((Only.refl [] wr).alloc (.cells #[.string kb, .int .u64 x.id, .int .u64 x.ver, .int .i64 x.line, .int .i64 x.cls] 70))
     have z0 := BX.out.cell 0
     have z1 := BX.out.cell 1
     have z2 := BX.out.cell 2
     have z3 := BX.out.cell 3
     have z4 := BX.out.cell 4
     go_wp2_with fail
     clear z0 z1 z2 z3 z4 e0 e1 e2 e3 e4
     generalize (wr.alloc _) = w3 at *
     have HC := arena_value gd cb cap x 2 D B S w3 (HA.out.keep0 (SH.out.only.trans0 OX.out)) (HD.out.only0 (SH.out.only.trans0 OX.out)) HKX.out.1 HKX.out.2
     rw [HVX.out] at HC
     refine HC.mono ?_
     clear HC
     rintro r w4 ⟨⟨vs, ok, rfl, hva⟩, o4⟩
     have HVA := hq9 hva
     have SH4 := hq9 ((SH.out.keep OX.out).keep o4)
     have BX4 := hq9 (BX.out.only o4 (by simp))
     have RW4 := hq9 ((RW.out.only0 OX.out).only0 o4)
     have SZ4 := hq9 (Nat.le_trans SZ.out (Nat.le_trans OX.out.size o4.size))
     clear hva o4
     cases ok with
     | false =>
       have HF := hq9 (show fq x = none by rw [HFQ.out]; show (FuTop.valOf (bytesAt D) 2 x) = none; rw [HVA.out]; rfl)
       go_wp2
       go_roundw
       case rel => exact ⟨i + 1, qv, by go_num, by omega, by rw [HTK.out, HF.out]; simpa using SH4.out, SZ4.out, RW4.out⟩
       case measure => simp only [intOf]; omega
     | true =>
       have HF := hq9 (show fq x = some vs by rw [HFQ.out]; show (FuTop.valOf (bytesAt D) 2 x) = _; rw [HVA.out]; rfl)
       have hsv := SH4.out.q
       obtain ⟨Ap, cp, hqv, _, _⟩ := hsv.slice
       obtain ⟨np, hnp⟩ : ∃ np, np = (((S.L.take i).filterMap fq).map textC).length := ⟨_, rfl⟩
       rw [← hnp] at hqv
       have HQV := hq9 hqv
       have s1 : w4.cell? ⟨w.heap.size + 1, 1, none⟩ = some (.slice Ap np cp) := by rw [← HQV.out]; exact SH4.out.s.cell 1
       obtain ⟨vb, hvb⟩ : ∃ vb, vb = (⟨vs.toArray⟩ : ByteArray) := ⟨_, rfl⟩
       rw [← hvb]
       have oa := (Only.refl [] w4).alloc (.cells #[.string vb] 9)
       have SHa := SH4.out.keep oa
       obtain ⟨v5, w6, hr5, r5, o5, l5⟩ := push_text (w := w4.alloc (.cells #[.string vb] 9)) (x := vs) SHa.q (by have := fm_len fq S.L i 1000 HL.out; omega) (A := some ⟨w4.heap.size, 0, none⟩) (by
        have e : textC vs = [.string vb] := by rw [hvb]; rfl
        rw [e]
        exact Sl.of_blk (Blk.new w4 9 #[.string vb]) 0 rfl (by simp))
       have hlo : w5.heap.size ≤ (w4.alloc (.cells #[.string vb] 9)).heap.size := Nat.le_trans SZ4.out oa.size
       have hown5 : ∀ b ∈ qv.ownBlock.toList, w5.heap.size ≤ b := fun b hb => SHa.qo b (own_mem.1 hb)
       have S6 := hq9 (SHa.push2 (Q' := (S.L.take i).filterMap fq ++ [vs]) (by omega) (by omega) (by omega) (by have := HG.out; omega) SZW.out PLT.out hlo r5 o5 l5)
       have B5 := SHa.s.only o5 (fun hb => by have := hown5 _ hb; have := HG.out; have := SZW.out; omega)
       have RWa := (RW4.out.only0 oa).only o5 (fun b hb h => by have := hown5 b h; have := R5.out.lt b hb; omega)
       have os5 := (Only.refl [w.heap.size + 1] w6).setCell (p := ⟨w.heap.size + 1, 1, none⟩) (.inl (by simp)) v5
       have RW5 := hq9 (RWa.only os5 (fun b hb h => by have := F5.out b hb; have := GS2.out; simp at h; omega))
       have SZ5 := hq9 (Nat.le_trans hlo (Nat.le_trans o5.size os5.size))
       have s5 : w6.cell? ⟨w.heap.size + 1, 1, none⟩ = some qv := B5.cell 1
       have f5 := B5.frozen 1
       rw [HQV.out] at hr5 s5
       obtain ⟨A6, c6, hv6, _, _⟩ := r5.slice
       obtain ⟨n6, hn6⟩ : ∃ n6, v5 = .slice A6 n6 c6 := ⟨_, hv6⟩
       clear hv6
       subst hn6
       clear hsv hnp hqv hvb oa SHa r5 o5 l5 hlo hown5 B5 RWa os5
       go_wp2_with (at_builtin; refine wpList_append_run _ rfl (.tmp 53) (.tmp 55) 58 rfl _ _ rfl rfl _ _ hr5 ?_)
       clear hr5 s5 f5 s1
       go_roundw
       case rel => exact ⟨i + 1, _, by go_num, by omega, by rw [HTK.out, HF.out]; exact S6.out, SZ5.out, RW5.out⟩
       case measure => simp only [intOf]; omega
    ·have q1 : decide ((i : Int) < (m : Int)) = false := by go_num
     have HI := hq9 (show i = S.L.length by have := HM.out; omega)
     have HQE := hq9 (show (S.L.take i).filterMap fq = S.L.filterMap fq by rw [HI.out, List.take_length])
     have SF := SH.out
     rw [HQE.out] at SF
     have BSF := hq9 SF.s
     have BRF := hq9 SF.r
     have SFF := hq9 SF
     have g0 := SF.s.cell 0
     have g1 := SF.s.cell 1
     clear SF
     obtain ⟨Ap, cp, hpv, _, _⟩ := SFF.out.p.slice
     obtain ⟨Aq, cq, hqv, _, _⟩ := SFF.out.q.slice
     obtain ⟨np, hnp⟩ : ∃ np, np = ((S.T.filterMap fp).map pairC).length := ⟨_, rfl⟩
     obtain ⟨nq, hnq⟩ : ∃ nq, nq = ((S.L.filterMap fq).map textC).length := ⟨_, rfl⟩
     rw [← hnp] at hpv
     rw [← hnq] at hqv
     subst hpv hqv
     clear hnp hnq g0 g1
     go_wp2_with (first | ((with_reducible show wpList _ _ _ (Oper.mk (some 59) _ _ _ _ _ :: _) _ _); refine wpList_load_part rfl 60 (.tmp 3) rfl (w.heap.size + 1) 0 rfl 60 _ BSF.out [.slice Ap np cp, .slice Aq nq cq] rfl _ Tryz.underlying60 rfl (by kernel_rfl) ?_) | ((with_reducible show wpList _ _ _ (Oper.mk none _ _ _ _ _ :: _) _ _); refine wpList_store_part rfl 60 (.tmp 2) (.tmp 59) rfl w.heap.size 0 [.slice Ap np cp, .slice Aq nq cq] rfl rfl 60 _ BRF.out #[.slice Ap np cp, .slice Aq nq cq] rfl (by simp) shelfInfo (one_of rfl) ?_; intro w9 hb ho hs; have B9 := hq9 hb; have O9 := hq9 ho; clear hb ho hs))
     have O99 := hq9 (SFF.out.only.trans O9.out (fun b hb => .inr (by simp at hb; omega)))
     refine bodyPost_ret (results_cell_row rfl _ _ w.heap.size 60 _ _ _ rfl B9.out Tryz.underlying60 rfl (by kernel_rfl)) rfl ⟨_, _, rfl, ?_, ?_, O99.out, fun b hb => ?_, fun b hb => ?_⟩
     ·have := SFF.out.p.only O9.out (fun b hb h => by have := SFF.out.po b hb; have := HG.out; simp at h; omega)
      rw [HFP.out] at this
      exact this
     ·have := SFF.out.q.only O9.out (fun b hb h => by have := SFF.out.qo b hb; have := HG.out; have := SZW.out; simp at h; omega)
      rw [HFQ.out] at this
      exact this
     ·have := SFF.out.po b hb
      have := HG.out
      omega
     ·have := SFF.out.qo b hb
      have := HG.out
      have := SZW.out
      omega
end Go.Proofs.YtlggichakafkiaaGreat