/- The map's index: contract of New. -/
import Derived.Shelf.SlSortCmp.WholeK
import Derived.Shelf.SlGeneric
import Derived.Shelf.Small.Strs
import Derived.Shelf.SlSortCmp.NoneTotal
import Derived.Shelf.SlicesQ.IndexFunc
import Derived.Shelf.SlicesE.Clone
import Derived.Ground.NamesProg
import Derived.Ground.SlsfProg
import Derived.Ground.SlgfProg
import Derived.Ground.SlgnProg
import Derived.Test.YtlggichakafkiaaGreatProg
import Derived.Deep.RegionHeld3
import Derived.Shelf.SlIter.Nil
import Derived.Shelf.SortM.Plain
import Derived.Shelf.SortM.SortNone
import Derived.Ground.GgzProg
import Derived.Ground.SlgmProg
import Derived.Sort.KeysCollected
import Derived.Lib.AppendZerosOnto
import Derived.Lib.Overlaps
import Derived.Laws.CopyRow
import Derived.Laws.Externs
import Derived.Test.YtlggichakafkiaaGreatGTopHostile1
import Derived.Test.YtlggichakafkiaaGreatGTopHostile2
set_option linter.unusedSimpArgs false
set_option linter.unusedVariables false
namespace Go.Proofs.YtlggichakafkiaaGreat
open Go.BigFrame Go.RowKit Go.Maps Go.ChangeMaps Go.Proofs.FuMem Go.Proofs.FuTop Go.Proofs.FuCrc
set_option maxRecDepth 100000
def halfTab (bs : List Nat) : Array Value := (bs.map (fun b => Value.map (some b)) ++ List.replicate (8 - bs.length) (Value.map none)).toArray
theorem halfTab_set (bs : List Nat) (b : Nat) (h : bs.length < 8) : (halfTab bs).setIfInBounds bs.length (.map (some b)) = halfTab (bs ++ [b]) := by
 unfold halfTab
 rw [List.setIfInBounds_toArray]
 congr 1
 rw [List.set_append_right _ _ (by rw [List.length_map]; exact Nat.le_refl _), List.length_map, Nat.sub_self, List.length_append, List.length_singleton, List.map_append, List.append_assoc]
 obtain ⟨m, hm⟩ : ∃ m, 8 - bs.length = m + 1 := ⟨7 - bs.length, by omega⟩
 rw [hm, show 8 - (bs.length + 1) = m by omega, List.replicate_succ, List.set_cons_zero]
 rfl
theorem halfTab_at (bs : List Nat) (h : bs.length < 8) : (halfTab bs)[bs.length]? = some (.map none) := by
 unfold halfTab
 rw [List.getElem?_toArray, List.getElem?_append_right (by rw [List.length_map]; exact Nat.le_refl _), List.length_map, Nat.sub_self, List.getElem?_replicate, if_pos (by omega)]
theorem halfTab_all (bs : List Nat) (h : bs.length = 8) : halfTab bs = (bs.map fun b => Value.map (some b)).toArray := by
 unfold halfTab
 rw [h]
 simp
set_option maxHeartbeats 1000000 in
theorem tab_New (w : World) : Calls Tryz.prog 137 #[] w fun e w' => ∃ g bs, e = .returned (.pointer (some ⟨g, 0, none⟩)) ∧ TabAt w' g bs [] ∧ Only [] w w' ∧ ∀ b ∈ g :: bs, w.heap.size ≤ b := by
 have hmm := @run_makeMap Tryz.prog
 go_enter Tryz.func137, Tryz.ntmps137
 go_wp2
 go_loopw [2, 5] (fun _ i wr => ∃ bs : List Nat, bs.length ≤ 8 ∧ i = .int .i64 bs.length ∧ Blk wr w.heap.size 277 (halfTab bs) ∧ (∀ b ∈ bs, MapAt wr b [] ∧ w.heap.size < b) ∧ bs.Nodup ∧ Only [] w wr) (fun _ i _ => 8 - (intOf i).toNat)
 case atStart => exact ⟨[], by simp, rfl, Blk.new _ _ _, fun b hb => by simp at hb, List.nodup_nil, (Only.refl _ _).alloc _⟩
 case round =>
  obtain ⟨bs, h8, rfl, hb, hm, hn, ho⟩ := hrel
  by_cases hlt : bs.length < 8
  ·have q1 : decide ((bs.length : Int) < 8) = true := by go_num
   have c0 : ∀ o, (wr.alloc o).cell? ⟨w.heap.size, bs.length, none⟩ = some (.map none) := fun o => by
    rw [(hb.only ((Only.refl [] wr).alloc o) (by simp)).cell]
    exact halfTab_at bs hlt
   have f0 : ∀ o, (wr.alloc o).frozen? ⟨w.heap.size, bs.length, none⟩ = false := fun o => (hb.only ((Only.refl [] wr).alloc o) (by simp)).frozen _
   have HB := hq9 hb
   have HM := hq9 hm
   have HN := hq9 hn
   have ON := hq9 ho
   clear hb hm hn ho
   go_wp2
   go_roundw
   case rel =>
    have hg : w.heap.size < wr.heap.size := HB.out.lt
    have oa := (Only.refl [] wr).alloc (.map #[] 0)
    have os := (Only.refl [w.heap.size] (wr.alloc (.map #[] 0))).setCell (p := ⟨w.heap.size, bs.length, none⟩) (.inl (by simp)) (.map (some wr.heap.size))
    refine ⟨bs ++ [wr.heap.size], by simp; omega, by simp, ?_, ?_, ?_, (ON.out.alloc _).setCell (.inr (Nat.le_refl _)) _⟩
    ·have := (HB.out.only oa (by simp)).set bs.length (.map (some wr.heap.size))
     rw [halfTab_set bs _ hlt] at this
     exact this
    ·intro b hb
     rcases List.mem_append.1 hb with hb | hb
     ·have h2 := HM.out b hb
      exact ⟨(h2.1.only oa (by simp)).only os (by simp; omega), h2.2⟩
     ·rw [List.mem_singleton.1 hb]
      exact ⟨(MapAt.made wr).only os (by simp; omega), hg⟩
    ·rw [List.nodup_append]
     refine ⟨HN.out, by simp, fun a ha b hb e => ?_⟩
     rw [List.mem_singleton.1 hb] at e
     have := (HM.out a ha).1.lt
     omega
   case measure => simp [intOf]; omega
  ·obtain ⟨n, hn8⟩ : ∃ n, n = bs.length := ⟨_, rfl⟩
   have q1 : decide ((bs.length : Int) < 8) = false := by go_num
   have HB := hq9 hb
   have HM := hq9 hm
   have HN := hq9 hn
   have ON := hq9 ho
   clear hb hm hn ho
   go_wp2
   go_ret
   have h8' : bs.length = 8 := by omega
   have hb := HB.out
   rw [halfTab_all bs h8'] at hb
   refine ⟨w.heap.size, bs, rfl, ⟨hb, h8', fun i b hbi => ?_, ?_, List.Pairwise.nil⟩, ON.out, fun b hbm => ?_⟩
   ·exact (HM.out b (List.mem_of_getElem? hbi)).1
   ·exact List.nodup_cons.2 ⟨fun hm => by have := (HM.out _ hm).2; omega, HN.out⟩
   ·rcases List.mem_cons.1 hbm with rfl | hbm
    ·exact Nat.le_refl _
    ·have := (HM.out b hbm).2
     omega
end Go.Proofs.YtlggichakafkiaaGreat
namespace Go.Proofs.FuMem
open Go.RowKit Go.Sort
variable {α : Type} [Inhabited α] {enc : α → List Value} {k : Nat}
theorem flatK_list (hk : ∀ x, (enc x).length = k) (d : Array α) : (flatK enc k d).toList = (d.toList.map enc).flatten := by
 have hl : ∀ x ∈ d.toList.map enc, x.length = k := fun x hx => by
  obtain ⟨y, _, rfl⟩ := List.mem_map.1 hx
  exact hk y
 refine List.ext_getElem? fun t => ?_
 by_cases ht : t < d.size * k
 ·have h0 : 0 < k := by
   rcases Nat.eq_zero_or_pos k with h | h
   ·subst h
    simp at ht
   ·exact h
  have hi : t / k < d.size := (Nat.div_lt_iff_lt_mul h0).2 ht
  have hj : t % k < k := Nat.mod_lt _ h0
  have e : t / k * k + t % k = t := by rw [Nat.mul_comm]; exact Nat.div_add_mod t k
  have h2 := flatten_at hl hj (i := t / k) (by simpa using hi)
  rw [e] at h2
  rw [h2, Array.getElem?_toList, List.getElem_map]
  have h3 := get_flatK enc k d t ht
  rw [getElem!_pos _ _ (by simpa using ht)] at h3
  rw [Array.getElem?_eq_getElem (by simpa using ht), h3, getElem!_pos d _ hi, getElem!_pos _ _ (by rw [hk]; exact hj), List.getElem?_eq_getElem (by rw [hk]; exact hj)]
  rfl
 ·rw [List.getElem?_eq_none (by simpa using ht), List.getElem?_eq_none (by rw [flatten_len hl, List.length_map, Array.length_toList]; omega)]
theorem holdsK_of_rows {e : TypeId} {w : World} {g n c : Nat} {d : Array α} (hk : ∀ x, (enc x).length = k) (h : RowS e k w (.slice (some ⟨g, 0, none⟩) n c) (d.toList.map enc)) : HoldsK enc k w g 0 d := by
 obtain ⟨hn, hs⟩ := h.sl
 intro j hj
 rw [size_flatK] at hj
 refine ⟨?_, h.frozen _⟩
 rcases hs.2 with h0 | ⟨b, off, hb, hc⟩
 ·rw [hn] at h0
  simp only [List.length_map, Array.length_toList] at h0
  omega
 ·cases hb
  rw [hc j (by rw [hn]; simpa using hj), ← flatK_list hk d, Array.getElem?_toList, Array.getElem?_eq_getElem (by simpa using hj), getElem!_pos _ _ (by simpa using hj)]
  rfl
theorem sortWorld_only (w : World) (g m : Nat) (d : Array α) (os : Array Obj) : Only [g] w (sortWorldK enc k w g 0 m d os) := by
 refine ⟨rfl, rfl, rfl, ?_, fun i hi hn => ?_⟩
 ·simp [sortWorldK, putRowK, putRow, mapBlock]
 ·have hi' : i < (putRowK enc k (Sort.ahead w m) g 0 d).heap.size := by simpa [putRowK, putRow, mapBlock] using hi
  rw [sortWorldK, heap_grow_old _ os hi']
  have : g ≠ i := fun e => hn (by simp [e])
  simp [putRowK, putRow, mapBlock, Array.getElem?_modify, this]
theorem rows_sorted {e : TypeId} {w : World} {g n c : Nat} {d d' : Array α} (hk : ∀ x, (enc x).length = k) (h : RowS e k w (.slice (some ⟨g, 0, none⟩) n c) (d.toList.map enc)) (hs : d'.size = d.size) (m : Nat) (os : Array Obj) :
  RowS e k (sortWorldK enc k w g 0 m d' os) (.slice (some ⟨g, 0, none⟩) n c) (d'.toList.map enc) := by
 have hl : (d'.toList.map enc).length = (d.toList.map enc).length := by simp [hs]
 refine ⟨?_, fun x hx => by obtain ⟨y, _, rfl⟩ := List.mem_map.1 hx; exact hk y⟩
 rw [hl]
 have hlt : g < w.heap.size := h.lt g rfl
 have hfl : (d'.toList.map enc).flatten.length = (d.toList.map enc).length * k := by
  rw [flatten_len (fun x hx => by obtain ⟨y, _, rfl⟩ := List.mem_map.1 hx; exact hk y), hl]
 refine ⟨hfl, ?_⟩
 rcases h.row.2 with ⟨hv, h0⟩ | ⟨g', cap, cur, hv, hb, hg, hc, hm, hsz, htk⟩
 ·cases hv
 ·cases hv
  refine .inr ⟨g, c, putCells id 0 (flatK enc k d') cur, rfl, hb, ?_, hc, hm, ?_, ?_⟩
  ·rw [sortWorldK, heap_grow_old _ os (by simpa [putRowK, putRow, mapBlock] using hlt)]
   simp only [putRowK, putRow, mapBlock, heap_ahead, Array.getElem?_modify, if_true, hg, Option.map_some, onCells]
  ·simp [putCells, hsz]
  ·rw [← flatK_list hk d']
   have hle : (d.toList.map enc).length * k ≤ c * k := Nat.mul_le_mul_right _ hc
   have hln : (d.toList.map enc).length = d.size := by simp
   rw [hln] at hle hfl ⊢
   refine List.ext_getElem (by simp [putCells, hs]; omega) fun t h1 h2 => ?_
   have ht : t < d'.size * k := by simpa using h2
   rw [List.getElem_take, Array.getElem_toList, Array.getElem_toList]
   simp only [putCells, Array.getElem_mapIdx]
   rw [if_pos ⟨Nat.zero_le _, by rw [size_flatK]; omega⟩, Nat.sub_zero, getElem!_pos _ _ (by simpa using ht)]
   rfl
end Go.Proofs.FuMem
namespace Go.Proofs.YtlggichakafkiaaGreat
open Go.Shelf
def laysCompare_ren : Go.Shelf.Ren := ⟨fun | 106 => 152 | 213 => 189 | 265 => 232 | n => n, fun | 9 => 9 | 3 => 3 | n => n, fun | n => n⟩
theorem laysCompare : Go.Proofs.Lays.n106 Tryz.prog laysCompare_ren := {
 mixed := by kernel_rfl
 f106 := Tryz.func152.trans (congrArg some (by kernel_rfl))
 f213 := Tryz.func189.trans (congrArg some (by kernel_rfl))
 f265 := Tryz.func232.trans (congrArg some (by kernel_rfl))
 t3 := Tryz.underlying3
 a3 := Tryz.isAgg3
 z3 := Tryz.sizeOf3
 v3 := Tryz.zeroValue3
 t9 := Tryz.underlying9
 a9 := Tryz.isAgg9
 z9 := Tryz.sizeOf9
 v9 := Tryz.zeroValue9 }
def laysSortLink_ren : Go.Shelf.Ren := ⟨fun | 6 => 150 | 15 => 188 | 14 => 187 | 28 => 230 | 29 => 231 | 20 => 222 | 21 => 223 | 22 => 224 | 23 => 225 | 24 => 226 | 25 => 227 | 26 => 228 | 27 => 229 | 46 => 286 | 47 => 287 | 48 => 288 | 49 => 289 | 50 => 290 | 57 => 344 | n => n, fun | 22 => 216 | 24 => 70 | 25 => 280 | 3 => 3 | 39 => 140 | 0 => 0 | 53 => 200 | 55 => 50 | 4 => 4 | 46 => 381 | 45 => 380 | 50 => 385 | 5 => 5 | 9 => 9 | 66 => 409 | 70 => 412 | 76 => 462 | 77 => 463 | n => n, fun | n => n⟩
theorem laysSortLink : Go.Proofs.SlLaysF0.n6 Tryz.prog laysSortLink_ren := {
 mixed := by kernel_rfl
 f6 := ⟨Tryz.f150.name, by decide, Tryz.func150.trans (congrArg some (by kernel_rfl))⟩
 f14 := ⟨Tryz.f187.name, by decide, Tryz.func187.trans (congrArg some (by kernel_rfl))⟩
 f15 := Tryz.func188.trans (congrArg some (by kernel_rfl))
 f20 := ⟨Tryz.f222.name, by decide, Tryz.func222.trans (congrArg some (by kernel_rfl))⟩
 f21 := ⟨Tryz.f223.name, by decide, Tryz.func223.trans (congrArg some (by kernel_rfl))⟩
 f22 := ⟨Tryz.f224.name, by decide, Tryz.func224.trans (congrArg some (by kernel_rfl))⟩
 f23 := ⟨Tryz.f225.name, by decide, Tryz.func225.trans (congrArg some (by kernel_rfl))⟩
 f24 := ⟨Tryz.f226.name, by decide, Tryz.func226.trans (congrArg some (by kernel_rfl))⟩
 f25 := ⟨Tryz.f227.name, by decide, Tryz.func227.trans (congrArg some (by kernel_rfl))⟩
 f26 := ⟨Tryz.f228.name, by decide, Tryz.func228.trans (congrArg some (by kernel_rfl))⟩
 f27 := ⟨Tryz.f229.name, by decide, Tryz.func229.trans (congrArg some (by kernel_rfl))⟩
 f28 := Tryz.func230.trans (congrArg some (by kernel_rfl))
 f29 := Tryz.func231.trans (congrArg some (by kernel_rfl))
 f46 := ⟨Tryz.f286.name, by decide, Tryz.func286.trans (congrArg some (by kernel_rfl))⟩
 f47 := Tryz.func287.trans (congrArg some (by kernel_rfl))
 f48 := Tryz.func288.trans (congrArg some (by kernel_rfl))
 f49 := ⟨Tryz.f289.name, by decide, Tryz.func289.trans (congrArg some (by kernel_rfl))⟩
 f50 := ⟨Tryz.f290.name, by decide, Tryz.func290.trans (congrArg some (by kernel_rfl))⟩
 f57 := ⟨Tryz.f344.name, by decide, Tryz.func344.trans (congrArg some (by kernel_rfl))⟩
 t0 := Tryz.underlying0
 a0 := Tryz.isAgg0
 z0 := Tryz.sizeOf0
 v0 := Tryz.zeroValue0
 t3 := Tryz.underlying3
 a3 := Tryz.isAgg3
 z3 := Tryz.sizeOf3
 v3 := Tryz.zeroValue3
 t4 := Tryz.underlying4
 a4 := Tryz.isAgg4
 z4 := Tryz.sizeOf4
 v4 := Tryz.zeroValue4
 t5 := Tryz.underlying5
 a5 := Tryz.isAgg5
 z5 := Tryz.sizeOf5
 v5 := Tryz.zeroValue5
 t9 := Tryz.underlying9
 a9 := Tryz.isAgg9
 z9 := Tryz.sizeOf9
 v9 := Tryz.zeroValue9
 t22 := Tryz.underlying216
 a22 := Tryz.isAgg216
 z22 := Tryz.sizeOf216
 v22 := Tryz.zeroValue216
 t25 := Tryz.underlying280
 a25 := Tryz.isAgg280
 z25 := Tryz.sizeOf280
 v25 := Tryz.zeroValue280
 t39 := Tryz.underlying140
 a39 := Tryz.isAgg140
 z39 := Tryz.sizeOf140
 v39 := Tryz.zeroValue140
 t45 := Tryz.underlying380
 a45 := Tryz.isAgg380
 z45 := Tryz.sizeOf380
 v45 := Tryz.zeroValue380
 t46 := Tryz.underlying381
 a46 := Tryz.isAgg381
 z46 := Tryz.sizeOf381
 v46 := Tryz.zeroValue381
 t50 := Tryz.underlying385
 a50 := Tryz.isAgg385
 z50 := Tryz.sizeOf385
 v50 := Tryz.zeroValue385
 t53 := Tryz.underlying200
 a53 := Tryz.isAgg200
 z53 := Tryz.sizeOf200
 v53 := Tryz.zeroValue200
 t55 := Tryz.underlying50
 a55 := Tryz.isAgg50
 z55 := Tryz.sizeOf50
 v55 := Tryz.zeroValue50
 t66 := Tryz.underlying409
 a66 := Tryz.isAgg409
 z66 := Tryz.sizeOf409
 v66 := Tryz.zeroValue409
 t70 := Tryz.underlying412
 a70 := Tryz.isAgg412
 z70 := Tryz.sizeOf412
 v70 := Tryz.zeroValue412
 t76 := Tryz.underlying462
 a76 := Tryz.isAgg462
 z76 := Tryz.sizeOf462
 v76 := Tryz.zeroValue462
 t77 := Tryz.underlying463
 a77 := Tryz.isAgg463
 z77 := Tryz.sizeOf463
 v77 := Tryz.zeroValue463 }
def laysCloneCall_ren : Go.Shelf.Ren := ⟨fun | 41 => 105 | n => n, fun | 22 => 38 | 23 => 40 | 4 => 4 | n => n, fun | n => n⟩
def laysCloneEntry_ren : Go.Shelf.Ren := ⟨fun | 41 => 168 | n => n, fun | 22 => 246 | 23 => 250 | 4 => 4 | n => n, fun | n => n⟩
theorem laysCloneEntry : Go.Proofs.SlLaysE0.n41 Tryz.prog laysCloneEntry_ren := {
 mixed := by kernel_rfl
 f41 := ⟨Tryz.f168.name, by decide, Tryz.func168.trans (congrArg some (by kernel_rfl))⟩
 t4 := Tryz.underlying4
 a4 := Tryz.isAgg4
 z4 := Tryz.sizeOf4
 v4 := Tryz.zeroValue4
 t22 := Tryz.underlying246
 a22 := Tryz.isAgg246
 z22 := Tryz.sizeOf246
 v22 := Tryz.zeroValue246 }
end Go.Proofs.YtlggichakafkiaaGreat
namespace Go.Proofs.FuTop
open Go.RowKit Go.Proofs.FuMem Go.Sort
instance : Inhabited Link := ⟨noLink⟩
theorem compare_lt : ∀ (a b : List UInt8), (Lib.compareBytes a b < 0) ↔ bytesBefore a b = true
 | [], [] => by simp [Lib.compareBytes, bytesBefore]
 | [], _ :: _ => by simp [Lib.compareBytes, bytesBefore]
 | _ :: _, [] => by simp [Lib.compareBytes, bytesBefore]
 | a :: us, b :: bs => by
  have ih := compare_lt us bs
  unfold Lib.compareBytes bytesBefore
  by_cases h1 : a < b
  ·simp [h1]
  ·by_cases h2 : b < a
   ·have : a ≠ b := fun e => by subst e; exact absurd h2 h1
    simp [h1, h2, this]
   ·have : a = b := by
     have e1 : ¬ a.toNat < b.toNat := h1
     have e2 : ¬ b.toNat < a.toNat := h2
     exact UInt8.toNat_inj.1 (by omega)
    subst this
    simp [ih]
def cmpL (x y : Link) : Int := Lib.compareBytes x.key y.key
theorem ltL (x y : Link) : ltOf cmpL x y = bytesBefore x.key y.key := by
 unfold ltOf cmpL
 have := compare_lt x.key y.key
 by_cases h : Lib.compareBytes x.key y.key < 0
 ·rw [decide_eq_true h, this.1 h]
 ·rw [decide_eq_false h]
  cases hb : bytesBefore x.key y.key with
  | true => exact absurd (this.2 hb) h
  | false => rfl
theorem swoL : SWO (ltOf cmpL) where
 irrefl x := by rw [ltL]; exact WideAt.bytes_irrefl _
 trans x y z h1 h2 := by
  rw [ltL] at *
  exact WideShapes.bytes_trans _ _ _ h1 h2
 ntrans x y z h1 h2 := by
  rw [ltL] at *
  cases h : bytesBefore x.key z.key with
  | false => rfl
  | true =>
   by_cases e : x.key = y.key
   ·rw [← e, h] at h2
    cases h2
   ·rcases WideAt.bytes_total _ _ e with h3 | h3
    ·rw [h3] at h1
     cases h1
    ·rw [WideShapes.bytes_trans _ _ _ h3 h] at h2
     cases h2
theorem sorted_rising {T : List Link} (hT : Rising T) {d d' : Array Link} (hd : d.toList.Perm T) (hp : PermIn 0 d.size d d') (hs : SortedIn (ltOf cmpL) 0 d.size d') : d'.toList = T := by
 obtain ⟨hsz, _, hpp⟩ := hp
 have hp2 : d'.toList.Perm T := by
  have e1 : (d'.extract 0 d.size) = d' := by rw [← hsz]; exact Array.extract_size
  have e2 : (d.extract 0 d.size) = d := Array.extract_size
  rw [e1, e2] at hpp
  exact hpp.trans hd
 have hdk : T.Pairwise fun a b => a.key ≠ b.key := hT.imp fun h => before_ne h
 have hdk' : d'.toList.Pairwise fun a b => a.key ≠ b.key := (hp2.symm.pairwise_iff (fun {a b} (h : a.key ≠ b.key) => h.symm)).1 hdk
 have hr : d'.toList.Pairwise fun a b => bytesBefore a.key b.key = true := by
  rw [List.pairwise_iff_getElem] at hdk' ⊢
  intro i j hi hj hij
  have h1 := hs i j (Nat.zero_le _) hij (by rw [← hsz]; simpa using hj)
  rw [ltL, getElem!_pos d' j (by simpa using hj), getElem!_pos d' i (by simpa using hi)] at h1
  rcases WideAt.bytes_total _ _ (hdk' i j hi hj hij) with h2 | h2
  ·exact h2
  ·simp only [Array.getElem_toList] at h2
   rw [h2] at h1
   cases h1
 have hT' : T.Pairwise fun a b => bytesBefore a.key b.key = true := hT
 refine List.Perm.eq_of_pairwise (le := fun a b => bytesBefore a.key b.key = true) (fun a b _ _ h1 h2 => ?_) hr hT' hp2
 have := WideShapes.bytes_trans _ _ _ h1 h2
 rw [WideAt.bytes_irrefl] at this
 cases this
end Go.Proofs.FuTop
namespace Go.Proofs.YtlggichakafkiaaGreat
open Go.BigFrame Go.RowKit Go.Maps Go.ChangeMaps Go.Proofs.FuMem Go.Proofs.FuTop Go.Proofs.FuCrc Go.Sort
set_option maxRecDepth 100000
theorem str_Compare (a b : ByteArray) (w : World) : Calls Tryz.prog 152 #[.string a, .string b] w fun e w' => e = .returned (.int .i64 (Lib.compareBytes a.data.toList b.data.toList)) ∧ w = w' :=
 (Any.strings_Compare laysCompare a b w).mono fun _ _ ⟨he, hw⟩ => ⟨he, hw.symm⟩
theorem all_closure (x y : Link) (W : World) : Calls Tryz.prog 151 #[linkV x, linkV y] W fun e w' => e = .returned (.int .i64 (cmpL x y)) ∧ ∃ q os', w' = grow (W.drewN q) os' := by
 have HC := hq9 (fun w => str_Compare ⟨x.key.toArray⟩ ⟨y.key.toArray⟩ w)
 rw [show (ByteArray.mk x.key.toArray).data.toList = x.key by simp, show (ByteArray.mk y.key.toArray).data.toList = y.key by simp] at HC
 unfold linkV linkC cmpL
 generalize Lib.compareBytes x.key y.key = r at *
 go_enter Tryz.func151, Tryz.ntmps151
 go_wp2_with fail
 refine (HC.out _).mono ?_
 rintro e w' ⟨rfl, rfl⟩
 go_wp2
 go_ret
 exact ⟨rfl, 0, _, by rw [alloc_eq_grow, alloc_eq_grow, grow_grow]; rfl⟩
theorem sort_links (g n c : Nat) (d : Array Link) (T : List Link) (w : World) (h : RowS 70 5 w (.slice (some ⟨g, 0, none⟩) n c) (d.toList.map linkC)) (hd : d.toList.Perm T) (hT : Rising T) (hsz : d.size ≤ 100000) :
  Calls Tryz.prog 150 #[.slice (some ⟨g, 0, none⟩) n c, .func (.func 151) #[] #[]] w fun e w' => e = .returned (.tuple #[]) ∧ RowS 70 5 w' (.slice (some ⟨g, 0, none⟩) n c) (T.map linkC) ∧ Only [g] w w' := by
 have hn : n = d.size := by simpa using h.sl.1
 subst hn
 refine (AnyQ.slices_SortFunc laysSortLink 5 Tryz.isAgg70 Tryz.sizeOf70 linkC linkC_len linkC_one cmpL swoL 151 #[] g 0 c d w (enters_of Tryz.func151 (by kernel_rfl) rfl) (fun _ _ _ _ x y => all_closure x y _) (holdsK_of_rows linkC_len h) (h.lt g rfl) (by omega)).mono ?_
 rintro e w' ⟨rfl, d', m, os, hp, hs, rfl⟩
 refine ⟨rfl, ?_, sortWorld_only _ _ _ _ _⟩
 rw [← sorted_rising hT hd hp hs]
 exact rows_sorted linkC_len h hp.1 m os
theorem sort_none (A : Option Addr) (c : Nat) (w : World) :
  Calls Tryz.prog 150 #[.slice A 0 c, .func (.func 151) #[] #[]] w fun e w' => e = .returned (.tuple #[]) ∧ w = w' :=
 (AnyF.slices_SortFunc_none laysSortLink A c _ w).mono fun _ _ ⟨he, hw⟩ => ⟨he, hw.symm⟩
end Go.Proofs.YtlggichakafkiaaGreat
namespace Go.Proofs.FuTop
open Go.RowKit Go.Proofs.FuMem
theorem filter_less (T : List Link) (f : Link → Nat) (k : Nat) : (T.filter (fun l => decide (f l < k)) ++ T.filter (fun l => f l == k)).Perm (T.filter fun l => decide (f l < k + 1)) := by
 induction T with
 | nil => simp
 | cons y r ih =>
  by_cases h1 : f y < k
  ·have h2 : f y ≠ k := by omega
   have h3 : f y < k + 1 := by omega
   simp only [List.filter_cons, h1, h3, decide_true, beq_eq_false_iff_ne.2 h2, if_true, List.cons_append]
   exact ih.cons y
  ·by_cases h2 : f y = k
   ·have h3 : f y < k + 1 := by omega
    have h4 : (f y == k) = true := by simpa using h2
    simp only [List.filter_cons, h1, h3, h4, decide_true, decide_false, if_true]
    exact List.perm_middle.trans (ih.cons y)
   ·have h3 : ¬ f y < k + 1 := by omega
    have h4 : (f y == k) = false := by simpa using h2
    simp only [List.filter_cons, h1, h3, h4, decide_false]
    exact ih
theorem filter_one {T : List Link} (hT : Rising T) {c : Link} (hc : c ∈ T) (p q : Link → Bool) (hp : p c = false) (hq : ∀ l, q l = (p l || decide (l.key = c.key))) : (T.filter q).Perm (T.filter p ++ [c]) := by
 induction T with
 | nil => cases hc
 | cons y r ih =>
  obtain ⟨h1, h2⟩ := List.pairwise_cons.1 hT
  rcases List.mem_cons.1 hc with rfl | hc
  ·have hr : r.filter q = r.filter p := by
    refine List.filter_congr fun l hl => ?_
    have := before_ne (h1 l hl)
    rw [hq l, decide_eq_false fun e => this e.symm, Bool.or_false]
   rw [List.filter_cons_of_pos (by rw [hq]; simp), List.filter_cons_of_neg (by rw [hp]; simp), hr]
   exact (List.perm_append_singleton _ _).symm
  ·have hne : y.key ≠ c.key := before_ne (h1 c hc)
   have e : q y = p y := by rw [hq y, decide_eq_false hne, Bool.or_false]
   by_cases hy : p y = true
   ·rw [List.filter_cons_of_pos (by rw [e]; exact hy), List.filter_cons_of_pos hy]
    exact (ih h2 hc).cons y
   ·rw [List.filter_cons_of_neg (by rw [e]; exact hy), List.filter_cons_of_neg hy]
    exact ih h2 hc
theorem entry_mem {T : List Link} {k : List UInt8} {c : Link} (h : ∀ zd : DataW Link, (DataW.map (entriesOf T)).atKey (.string k) zd = .held c) : c ∈ T ∧ c.key = k := by
 have h0 := h .nil
 unfold DataW.atKey at h0
 simp only [] at h0
 split at h0
 ·rename_i p hp
  have hm := List.mem_of_find?_eq_some hp
  have hk := List.find?_some hp
  obtain ⟨l, hl, rfl⟩ := List.mem_map.1 hm
  simp only [DataW.held.injEq] at h0
  subst h0
  refine ⟨hl, ?_⟩
  simpa [Lit.sameKey] using hk
 ·cases h0
end Go.Proofs.FuTop
namespace Go.Proofs.YtlggichakafkiaaGreat
open Go.BigFrame Go.RowKit Go.Maps Go.ChangeMaps Go.Proofs.FuMem Go.Proofs.FuTop Go.Proofs.FuCrc Go.Sort
set_option maxRecDepth 100000
def MadeR (e : TypeId) (k : Nat) (w : World) (xs : List (List Value)) (v : Value) (w' : World) : Prop := RowS e k w' v xs ∧ (∀ b, v.ownBlock = some b → w.heap.size ≤ b) ∧ Only [] w w'
theorem linkInfo : ∃ i z, Tryz.prog.info? 70 = some i ∧ i.zero = some z ∧ i.size = 5 ∧ z.cells = (linkC noLink).toArray ∧ i.bytes ≤ 64 := ⟨_, _, rfl, rfl, rfl, rfl, by decide⟩
theorem push_link {w : World} {v : Value} {L : List Link} (h : RowS 70 5 w v (L.map linkC)) (hn : L.length ≤ 1000000) {A : Option Addr} {x : Link} (hr : Sl w A 5 (linkC x)) :
  ∃ v' w', (Builtin.append_ #[216, 216] 216 #[v, .slice A 1 1]).run Tryz.prog w = .ok v' w' ∧ RowS 70 5 w' v' ((L ++ [x]).map linkC) ∧ Only v.ownBlock.toList w w' ∧ (v'.ownBlock = v.ownBlock ∨ v'.ownBlock = some w.heap.size) := by
 obtain ⟨i, z, hi, hz, hs, hzs, hb⟩ := linkInfo
 have := h.push (P := Tryz.prog) 216 216 i z i.bytes Tryz.underlying216 hi hz hs rfl (by rw [hzs]; rfl) (by decide) A 1 (linkC x) hr (linkC_one x) (by rw [List.length_map]; unfold maxLen; omega) (by
  rw [List.length_map]
  calc (L.length + 1) * i.bytes ≤ 1000001 * 64 := Nat.mul_le_mul (by omega) hb
   _ ≤ _ := by decide)
 simpa using this
theorem mapInfo : (Tryz.prog.info? 274).map (·.size) = some 1 := by kernel_rfl
theorem mapsInfo : (Tryz.prog.info? 275).map (·.size) = some 8 := by kernel_rfl
theorem run_index_map (bs : List Nat) (k b : Nat) (hb : bs[k]? = some b) (h8 : bs.length = 8) (w : World) : (Instr.index 275 (.agg (bs.map fun b => Value.map (some b)).toArray) (.int .i64 k)).run Tryz.prog w = .ok (.map (some b)) w := by
 have hlt : k < 8 := by
  have := (List.getElem?_eq_some_iff.1 hb).1
  omega
 have h0 : (0 : Int) ≤ (k : Int) ∧ (k : Int) < ((8 : Nat) : Int) := by omega
 have hu := Tryz.underlying275
 cases hq : Tryz.prog.info? 274 with
 | none => have := mapInfo; simp [hq] at this
 | some i =>
  have hs : i.size = 1 := by have := mapInfo; simpa [hq] using this
  simp [Instr.index, asIntOf, run_underlying hu, h0, sizeOf, typeInfo, hq, hs, part, isAgg, run_underlying Tryz.underlying274, hb]
  omega
theorem Only.of_row {w w' : World} {r : Nat} (h : w.grownBy w' (some r)) : Only [r] w w' := Only.of_grown h (fun k hk => .inl (by cases hk; simp))
theorem Only.grown1 {w w' : World} {r : Option Nat} (h : Only r.toList w w') : w.grownBy w' r := ⟨h.os, h.tape, h.output, h.size, fun k hk hn => h.block k hk (by cases r with | none => simp | some x => simp; exact fun e => hn (by rw [e]))⟩
theorem strInv {key : Value} {kl : Lit} (h : keyOf Tryz.prog 9 key = some kl) : ∃ s : ByteArray, key = .string s := by
 obtain ⟨s, hs, _⟩ := WideMaps.string_of_keyOf Tryz.underlying9 h
 exact ⟨s, hs⟩
set_option maxHeartbeats 4000000 in
theorem tab_All (g : Nat) (bs : List Nat) (T : List Link) (w : World) (h : TabAt w g bs T) (hn : T.length ≤ 100000) :
  Calls Tryz.prog 111 #[.pointer (some ⟨g, 0, none⟩)] w fun e w' => ∃ v, e = .returned v ∧ MadeR 70 5 w (T.map linkC) v w' := by
 have H := hq9 h
 have h8 := h.n8
 have c0 := hq9 (show Sl w (some ⟨g, 0, none⟩) 8 (bs.map fun b => Value.map (some b)) from Sl.of_blk h.head 0 (by rw [List.drop_zero, List.take_of_length_le (by simp [h8])]) (by simp [h8]))
 have SZ : (Tryz.prog.info? 275).map (·.size) = some (bs.map fun b => Value.map (some b)).length := by rw [List.length_map, h8]; exact mapsInfo
 clear h
 go_enter Tryz.func111, Tryz.ntmps111
 go_wp2_with ((with_reducible show wpList _ _ _ (Oper.mk (some 14) _ _ _ _ _ :: _) _ _); refine wpList_load_mid rfl 275 (.tmp 13) rfl g 0 rfl (bs.map fun b => Value.map (some b)) _ (Sl.range c0.out) Tryz.underlying275 rfl SZ ?_)
 go_loopw [3, 15] (fun v i wr => ∃ (k : Nat) (L : List Link), k ≤ 8 ∧ i = .int .i64 k ∧ RowS 70 5 wr v (L.map linkC) ∧ L.Perm (T.filter fun l => decide (bk l.key < k)) ∧ (∀ b, v.ownBlock = some b → w.heap.size ≤ b) ∧ Only [] w wr) (fun _ i _ => 8 - (intOf i).toNat)
 case atStart => exact ⟨0, [], by omega, rfl, RowS.nil _ _ _, by simp, fun b hb => (by cases hb), Only.refl _ _⟩
 case round =>
  obtain ⟨k, L, hk, rfl, hr, hp, hb, ho⟩ := hrel
  have HR := hq9 hr
  have HP := hq9 hp
  have HB := hq9 hb
  have ON := hq9 ho
  have hLn := hp.length_eq
  have hLe := List.length_filter_le (fun l : Link => decide (bk l.key < k)) T
  clear hr hp hb ho
  by_cases hlt : k < 8
  ·have q1 : decide ((k : Int) < 8) = true := by go_num
   obtain ⟨b, hbk⟩ : ∃ b, bs[k]? = some b := ⟨_, List.getElem?_eq_getElem (by omega)⟩
   have hidx := run_index_map bs k b hbk h8
   have HT := hq9 (H.out.only ON.out (by simp))
   have HM := hq9 (HT.out.each k b hbk)
   have HRI := hq9 (rising_filter H.out.rise fun l => bk l.key == k)
   have hTb := List.length_filter_le (fun l : Link => bk l.key == k) T
   obtain ⟨Tb, hTbe⟩ : ∃ Tb, Tb = T.filter fun l => bk l.key == k := ⟨_, rfl⟩
   rw [← hTbe] at HM HRI hTb
   have HTb := hq9 hTbe
   clear hTbe
   go_wp2_with (first | (at_range; refine wpList_range_own _ rfl _ 274 rfl 9 70 strKeyed Tryz.underlying274 linkR b Tb.length (.map (entriesOf Tb)) rfl HM.out ?_; intro w0 hrg0 hg0 hs0) | go_in)
   go_frame
   have R0 := hq9 hrg0
   have V0 := hq9 (HR.out.only (Only.of_grown (S := []) hg0 (fun k hk => by cases hk)) (by simp))
   have O0 := hq9 (ON.out.trans0 (Only.of_grown (S := []) hg0 (fun k hk => by cases hk)))
   have N0 := hq9 (show u3.ownBlock ≠ some wr.heap.size from fun e => by have := HR.out.lt _ e; omega)
   have hbw : b < w.heap.size := H.out.lt b (by simp [List.mem_of_getElem? hbk])
   have hww := ON.out.size
   clear hrg0 hg0 hs0
   go_loopw [3] (fun v wq => ∃ (left : Lit → Bool) (cnt : Nat) (L2 : List Link), wq.ranges Tryz.prog 9 linkR b wr.heap.size Tb.length (.map (entriesOf Tb)) left cnt ∧ RowS 70 5 wq v ((L ++ L2).map linkC) ∧ L2.Perm (Tb.filter fun l => !left (.string l.key)) ∧ (∀ b, v.ownBlock = some b → w.heap.size ≤ b) ∧ v.ownBlock ≠ some wr.heap.size ∧ Only [] w wq) (fun _ wq => wq.rangeLeft b wr.heap.size)
   case atStart =>
    refine ⟨_, _, [], R0.out, by simpa using V0.out, ?_, HB.out, N0.out, O0.out⟩
    have : Tb.filter (fun l => !Maps.has (.map (entriesOf Tb)) (.string l.key)) = [] := by
     rw [List.filter_eq_nil_iff]
     intro l hl
     rw [has_entries]
     unfold hasKey
     simp only [Bool.not_eq_true', Bool.not_eq_false, List.any_eq_true]
     exact ⟨l, hl, by simp⟩
    rw [this]
   case round =>
    obtain ⟨left, cnt, L2, hrg, hv, hp2, hb2, hn2, ho2⟩ := hrel
    have V2 := hq9 hv
    have P2 := hq9 hp2
    have B2 := hq9 hb2
    have N2 := hq9 hn2
    have O2 := hq9 ho2
    have hL2 := hp2.length_eq
    have hL2e := List.length_filter_le (fun l : Link => !left (.string l.key)) Tb
    clear hv hp2 hb2 hn2 ho2
    go_wp2_with (at_next; refine wpList_next_ranges _ rfl _ rfl 9 strKeyed linkR Value.string linkV (fun _ _ h => strInv h) (fun _ _ h => (linkR_inv h).imp fun _ h => h.1) b _ Tb.length _ _ _ rfl hrg ?_ ?_)
    ·intro _ hl0
     have P3 := hq9 (show (L ++ L2).Perm (T.filter fun l => decide (bk l.key < k + 1)) by
      have e1 : Tb.filter (fun l => !left (.string l.key)) = Tb := List.filter_eq_self.2 fun l _ => by rw [hl0]; rfl
      have h1 := P2.out
      rw [e1] at h1
      refine ((HP.out).append h1).trans ?_
      rw [HTb.out]
      exact filter_less T (fun l => bk l.key) k)
     clear hl0 hrg
     go_wp2
     go_roundw
     case rel => exact ⟨k + 1, L ++ L2, by omega, by go_num, V2.out, P3.out, B2.out, O2.out⟩
     case measure => simp [intOf]; omega
    ·intro x c kl y ps w1 cnt1 hkey hleft hRc hat hrg1 hlt1 hg1 hs1 hen
     have hkl : kl = .string x.data.toList := by
      obtain ⟨s, hs, hk2, _⟩ := WideMaps.string_of_keyOf Tryz.underlying9 hkey
      cases hs
      exact hk2
     subst hkl
     rw [linkR_mk] at hRc
     obtain ⟨rfl, rfl⟩ : DataW.held c = y ∧ [] = ps := by simpa using hRc
     obtain ⟨hcm, hck⟩ := entry_mem hat
     have V3 := hq9 (V2.out.only (Only.of_row hg1) (fun b hb => by simp; exact fun e => N2.out (by rw [hb, e])))
     have O3 := hq9 (O2.out.trans (Only.of_row hg1) (fun b hb => .inr (by rw [List.mem_singleton.1 hb]; exact hww)))
     have hw1 := O3.out.size
     have HS1 := hq9 hs1
     have NB := hq9 (Blk.new (w1.alloc (.cells #[.string ⟨c.key.toArray⟩, .int .u64 c.id, .int .u64 c.ver, .int .i64 c.line, .int .i64 c.cls] 70)) 70 #[.string ⟨c.key.toArray⟩, .int .u64 c.id, .int .u64 c.ver, .int .i64 c.line, .int .i64 c.cls])
     have OA := hq9 (((Only.refl [] w1).alloc (.cells #[.string ⟨c.key.toArray⟩, .int .u64 c.id, .int .u64 c.ver, .int .i64 c.line, .int .i64 c.cls] 70)).alloc (.cells #[.string ⟨c.key.toArray⟩, .int .u64 c.id, .int .u64 c.ver, .int .i64 c.line, .int .i64 c.cls] 70))
     obtain ⟨v4, w4, hr4, v4r, o4, loc4⟩ := push_link (V3.out.only0 OA.out) (by rw [List.length_append]; omega) (Sl.of_blk (xs := linkC c) (n := 5) NB.out 0 rfl (by simp))
     rw [show linkV c = .agg #[.string ⟨c.key.toArray⟩, .int .u64 c.id, .int .u64 c.ver, .int .i64 c.line, .int .i64 c.cls] from rfl] at hen
     have sz : ((w1.alloc (.cells #[.string ⟨c.key.toArray⟩, .int .u64 c.id, .int .u64 c.ver, .int .i64 c.line, .int .i64 c.cls] 70)).alloc (.cells #[.string ⟨c.key.toArray⟩, .int .u64 c.id, .int .u64 c.ver, .int .i64 c.line, .int .i64 c.cls] 70)).heap.size = w1.heap.size + 2 := by simp
     rw [sz] at loc4
     have sz1 : (w1.alloc (.cells #[.string ⟨c.key.toArray⟩, .int .u64 c.id, .int .u64 c.ver, .int .i64 c.line, .int .i64 c.cls] 70)).heap.size = w1.heap.size + 1 := by simp
     rw [sz1] at hr4
     have V4 := hq9 v4r
     have O4 := hq9 o4
     have L4 := hq9 loc4
     have SZ2 := hq9 sz
     clear v4r o4 loc4 sz sz1 hkey hRc hat
     have CM := hq9 hcm
     have CK := hq9 hck
     have LF := hq9 hleft
     have G1 := hq9 hrg1
     have LT := hq9 hlt1
     have RG := hq9 hrg
     have HG1 := hq9 hg1
     clear hcm hck hleft hrg1 hlt1 hrg hs1 hg1
     go_wp2_with (at_builtin; go_loud (refine wpList_append_run _ rfl (.tmp 24) (.tmp 26) 216 rfl _ _ rfl rfl _ _ hr4 ?_))
     go_roundw
     case rel =>
      have hne : some b ≠ u3.ownBlock := fun e => by have := B2.out b e.symm; omega
      have hrlt := (G1.out).lt
      refine ⟨_, cnt1, L2 ++ [c], (((G1.out.alloc _).alloc _).kept (Only.grown1 O4.out) hne (fun e => N2.out e.symm)), ?_, ?_, ?_, ?_, ((O3.out.alloc _).alloc _).trans O4.out (fun d hd => .inr ?_)⟩
      ·rw [← List.append_assoc]
       exact V4.out
      ·refine (P2.out.append_right [c]).trans (filter_one HRI.out CM.out (fun l => !left (.string l.key)) _ ?_ ?_).symm
       ·rw [CK.out, LF.out]
        rfl
       ·intro l
        rw [Bool.not_and, Bool.not_not, CK.out]
        congr 1
        show (l.key == x.data.toList) = _
        rw [Bool.beq_eq_decide_eq]
      ·intro d hd
       rcases L4.out with h | h
       ·exact B2.out d (by rw [← h]; exact hd)
       ·rw [h] at hd
        cases hd
        omega
      ·intro e
       rcases L4.out with h | h
       ·exact N2.out (by rw [← h]; exact e)
       ·rw [h] at e
        have := Option.some.inj e
        omega
      ·cases hu : u3.ownBlock with
       | none => rw [hu] at hd; simp at hd
       | some y =>
        rw [hu] at hd
        simp at hd
        rw [hd]
        exact B2.out y hu
     case measure =>
      have hne : some b ≠ u3.ownBlock := fun e => by have := B2.out b e.symm; omega
      have e1 := (((G1.out.alloc (.cells #[.string ⟨c.key.toArray⟩, .int .u64 c.id, .int .u64 c.ver, .int .i64 c.line, .int .i64 c.cls] 70)).alloc (.cells #[.string ⟨c.key.toArray⟩, .int .u64 c.id, .int .u64 c.ver, .int .i64 c.line, .int .i64 c.cls] 70)).kept (Only.grown1 O4.out) hne (fun e => N2.out e.symm)).left_eq
      rw [e1, RG.out.left_eq]
      exact LT.out
  ·have q1 : decide ((k : Int) < 8) = false := by go_num
   have hp := HP.out
   rw [List.filter_eq_self.2 (fun l _ => by have : bk l.key < 8 := Nat.mod_lt _ (by decide); simp; omega)] at hp
   have HP8 := hq9 hp
   obtain ⟨A, cp, hu, _, _⟩ := HR.out.slice
   obtain ⟨m, hm⟩ : ∃ m, m = (L.map linkC).length := ⟨_, rfl⟩
   rw [← hm] at hu
   subst hu
   have HM := hq9 hm
   clear hm
   have hn := HR.out
   clear hp
   by_cases hL0 : L = []
   ·have hT0 : T = [] := by
     have := HP8.out.length_eq
     rw [hL0] at this
     exact List.eq_nil_of_length_eq_zero this.symm
    have HT0 := hq9 hT0
    have HL0 := hq9 hL0
    have hm0 : m = 0 := by rw [HM.out, hL0]; rfl
    subst hm0
    clear hn hL0 hT0
    go_wp2_with fail
    refine (sort_none A cp wr).mono ?_
    rintro e w2 ⟨rfl, rfl⟩
    go_wp2
    go_ret
    have h0 := HR.out
    have hb0 := HB.out
    rw [HL0.out] at h0
    exact ⟨.slice A 0 cp, rfl, by rw [HT0.out]; exact h0, hb0, ON.out⟩
   ·have hLp : 0 < (L.map linkC).length := by
     rw [List.length_map]
     exact List.length_pos_iff.2 hL0
    obtain ⟨gb, rfl, _⟩ := hn.cell hLp
    have hge := HB.out gb rfl
    have HS := hq9 (sort_links gb m cp L.toArray T wr hn HP8.out H.out.rise (by
     have := HP8.out.length_eq
     simp
     omega))
    clear hn
    go_wp2_with fail
    refine HS.out.mono ?_
    rintro e w2 ⟨rfl, r2, o2⟩
    have R2 := hq9 r2
    have O2 := hq9 (ON.out.trans o2 (fun b hb => .inr (by rw [List.mem_singleton.1 hb]; exact hge)))
    clear r2 o2
    go_wp2
    go_ret
    exact ⟨.slice (some ⟨gb, 0, none⟩) m cp, rfl, R2.out, fun b hb => (by cases hb; exact hge), O2.out⟩
end Go.Proofs.YtlggichakafkiaaGreat
namespace Go.Proofs.YtlggichakafkiaaGreat
open Go.BigFrame Go.RowKit Go.Shelf Go.Proofs.FuMem Go.Proofs.FuTop
set_option maxRecDepth 100000
theorem clone_rows {P : Program} {ρ : Ren} (L : SlLaysE0.n41 P ρ) {k : Nat} (i0 : TypeInfo) (z : Value) (hi : P.info? (ρ.t 23) = some i0) (hz0 : i0.zero = some z) (hz1 : i0.size = k) (hzs : z.cells.size = k) (hsz : 0 < k)
  (hso : ∀ w, (Go.sizeOf (ρ.t 23)).run P w = .ok k w) (v : Value) (xs : List (List Value)) (w : World) (h : RowS (ρ.t 23) k w v xs) (h1 : ∀ x ∈ xs, ∀ u ∈ x, u.oneCell' = true) (hb : xs.length * i0.bytes ≤ 140737488355328) :
  Calls P (ρ.f 41) #[v] w fun e w' => ∃ v', e = .returned v' ∧ MadeR (ρ.t 23) k w xs v' w' := by
 obtain ⟨A, c, hv, hc, hcm⟩ := h.slice
 subst hv
 cases A with
 | none =>
  have hx : xs = [] := by
   cases xs with
   | nil => rfl
   | cons x r =>
    obtain ⟨g, e, _⟩ := h.cell (i := 0) (by simp)
    cases e
  subst hx
  refine (AnyE.slices_Clone_nil L _ _ w).mono ?_
  rintro e w' ⟨rfl, rfl⟩
  exact ⟨_, rfl, RowS.nil _ _ _, fun b hb => (by cases hb), Only.refl _ _⟩
 | some a =>
  have ha : ∃ g, a = ⟨g, 0, none⟩ := by
   rcases h.row.2 with ⟨hv, _⟩ | ⟨g, cap, cur, hv, _⟩
   ·cases hv
   ·injection hv with h1
    injection h1 with h1
    exact ⟨g, h1⟩
  obtain ⟨g, rfl⟩ := ha
  obtain ⟨cur, hB, _, _, _, hcs, htk⟩ := RowS.blk' h
  refine (AnyE.slices_Clone L i0 z k i0.bytes hi hz0 hz1 rfl hzs hsz hso g 0 xs.length c xs.flatten w (flatten_len h.len) (by omega) hb (fun j u hj => ?_) (fun u hu => by
   obtain ⟨x, hx, hux⟩ := List.mem_flatten.1 hu
   exact h1 x hx u hux)).mono ?_
  ·rw [hB.cell, Nat.zero_add, ← Array.getElem?_toList]
   rw [← htk, List.getElem?_take] at hj
   split at hj
   ·exact hj
   ·cases hj
  ·rintro e w' ⟨v', rfl, hr, _, hbl⟩
   exact ⟨v', rfl, ⟨ownsRow_zero hr, h.len⟩, fun b hb => (hr.lt b hb).1, Only.of_below hbl⟩
end Go.Proofs.YtlggichakafkiaaGreat
namespace Go.Proofs.YtlggichakafkiaaGreat
open Go.BigFrame Go.RowKit Go.Shelf Go.Proofs.FuMem Go.Proofs.FuTop
set_option maxRecDepth 100000
structure Ent where
 line : Int
 cls : Int
 r : Nat
 d : Nat
 anti : Int
deriving DecidableEq
def entC (x : Ent) : List Value := [.int .i64 x.line, .int .i64 x.cls, .int .u64 x.r, .int .u64 x.d, .int .i64 x.anti]
theorem entC_one (x : Ent) : ∀ v ∈ entC x, v.oneCell' = true := by
 intro v hv
 unfold entC at hv
 simp only [List.mem_cons, List.not_mem_nil, or_false] at hv
 rcases hv with rfl | rfl | rfl | rfl | rfl <;> rfl
theorem entInfo : ∃ i z, Tryz.prog.info? 250 = some i ∧ i.zero = some z ∧ i.size = 5 ∧ z.cells = (entC ⟨0, 0, 0, 0, 0⟩).toArray ∧ i.bytes ≤ 64 := ⟨_, _, rfl, rfl, rfl, rfl, by decide⟩
structure BagAt (w : World) (g : Nat) (v : Value) (E : List Ent) : Prop where
 head : Blk w g 300 #[v]
 row : RowS 250 5 w v (E.map entC)
 ne : ∀ b, v.ownBlock = some b → b ≠ g
theorem BagAt.only {w w' : World} {g : Nat} {v : Value} {E : List Ent} {S : List Nat} (h : BagAt w g v E) (ho : Only S w w') (h1 : g ∉ S) (h2 : ∀ b, v.ownBlock = some b → b ∉ S) : BagAt w' g v E := ⟨h.head.only ho h1, h.row.only ho h2, h.ne⟩
theorem bag_New (w : World) : Calls Tryz.prog 136 #[] w fun e w' => ∃ g, e = .returned (.pointer (some ⟨g, 0, none⟩)) ∧ BagAt w' g (.slice none 0 0) [] ∧ Only [] w w' ∧ w.heap.size ≤ g := by
 go_enter Tryz.func136, Tryz.ntmps136
 go_wp2
 go_ret
 exact ⟨_, rfl, ⟨Blk.new _ _ _, RowS.nil _ _ _, fun b hb => by cases hb⟩, (Only.refl _ _).alloc _, Nat.le_refl _⟩
theorem bag_All (g : Nat) (v : Value) (E : List Ent) (w : World) (h : BagAt w g v E) (hn : E.length ≤ 100000) :
  Calls Tryz.prog 127 #[.pointer (some ⟨g, 0, none⟩)] w fun e w' => ∃ v', e = .returned v' ∧ MadeR 250 5 w (E.map entC) v' w' := by
 obtain ⟨i, z, hi, hz, hs, hzs, hb⟩ := entInfo
 have HC := hq9 (clone_rows laysCloneEntry i z hi hz hs (by rw [hzs]; rfl) (by decide) Tryz.sizeOf250 v (E.map entC) w h.row (fun x hx u hu => by
  obtain ⟨y, _, rfl⟩ := List.mem_map.1 hx
  exact entC_one y u hu) (by
  rw [List.length_map]
  calc E.length * i.bytes ≤ 100000 * 64 := Nat.mul_le_mul hn hb
   _ ≤ _ := by decide))
 have c0 := h.head.cell 0
 clear h hi hz hs hzs hb
 go_enter Tryz.func127, Tryz.ntmps127
 go_wp2_with fail
 refine HC.out.mono ?_
 rintro e w' ⟨v', rfl, hm⟩
 have HM := hq9 hm
 clear hm
 go_wp2
 go_ret
 exact ⟨v', rfl, HM.out⟩
end Go.Proofs.YtlggichakafkiaaGreat
namespace Go.Proofs.YtlggichakafkiaaGreat
open Go.BigFrame Go.RowKit Go.Proofs.FuMem Go.Proofs.FuTop
set_option maxRecDepth 100000
structure LineAt (w : World) (g : Nat) (v : Value) (L : List Link) : Prop where
 head : Blk w g 289 #[v, .int .i64 0, .int .i64 L.length]
 row : RowS 70 5 w v (L.map linkC)
 ne : ∀ b, v.ownBlock = some b → b ≠ g
theorem line_New (w : World) : Calls Tryz.prog 139 #[] w fun e w' => ∃ g, e = .returned (.pointer (some ⟨g, 0, none⟩)) ∧ LineAt w' g (.slice none 0 0) [] ∧ Only [] w w' ∧ w.heap.size ≤ g := by
 go_enter Tryz.func139, Tryz.ntmps139
 go_wp2
 go_ret
 exact ⟨_, rfl, ⟨Blk.new _ _ _, RowS.nil _ _ _, fun b hb => by cases hb⟩, (Only.refl _ _).alloc _, Nat.le_refl _⟩
set_option maxHeartbeats 2000000 in
theorem ring_push (g : Nat) (v : Value) (L : List Link) (x : Link) (w : World) (h : LineAt w g v L) (hn : L.length ≤ 100000) :
  Calls Tryz.prog 300 #[.pointer (some ⟨g, 0, none⟩), linkV x] w fun e w' => ∃ v', e = .returned (.tuple #[]) ∧ LineAt w' g v' (L ++ [x]) ∧ (∀ b, v'.ownBlock = some b → w.heap.size ≤ b) ∧ Only [g] w w' := by
 obtain ⟨A, c, rfl, hc, hcm⟩ := h.row.slice
 obtain ⟨m, hm⟩ : ∃ m, m = (L.map linkC).length := ⟨_, rfl⟩
 rw [← hm] at h hc
 have hml : m = L.length := by rw [hm, List.length_map]
 obtain ⟨i, z, hi, hz, hs, hzs, hb⟩ := linkInfo
 have S0 := run_slice_from0 (P := Tryz.prog) Tryz.underlying216 hi A m c
 have S1 := run_slice_to0 (P := Tryz.prog) Tryz.underlying216 hi A m c
 have hh := h.head
 rw [← hml] at hh
 have HR := hq9 h.row
 have HN := hq9 h.ne
 have hlt := hh.lt
 have HML := hq9 hml
 have HI := hq9 hi
 have HZ := hq9 hz
 have HS := hq9 hs
 have HZS := hq9 hzs
 have hm5 : m ≤ 100000 := by omega
 have BX := hq9 (Blk.new w 70 #[.string ⟨x.key.toArray⟩, .int .u64 x.id, .int .u64 x.ver, .int .i64 x.line, .int .i64 x.cls])
 have OX := hq9 ((Only.refl [] w).alloc (.cells #[.string ⟨x.key.toArray⟩, .int .u64 x.id, .int .u64 x.ver, .int .i64 x.line, .int .i64 x.cls] 70))
 have HH := hq9 hh
 have q0 : ((m : Int) == (m : Int)) = true := beq_self_eq_true _
 have HV := hq9 (show (linkV x) = .agg #[.string ⟨x.key.toArray⟩, .int .u64 x.id, .int .u64 x.ver, .int .i64 x.line, .int .i64 x.cls] from rfl)
 rw [HV.out]
 clear h hm hml hi hz hs hzs hh
 go_enter Tryz.func300, Tryz.ntmps300
 go_wp2_with fail
 refine wp_region_later (w.alloc (.cells #[.string ⟨x.key.toArray⟩, .int .u64 x.id, .int .u64 x.ver, .int .i64 x.line, .int .i64 x.cls] 70)) (by kernel_rfl) (by kernel_rfl) ?_
 have c0 := fun (p : Later (w.alloc (.cells #[.string ⟨x.key.toArray⟩, .int .u64 x.id, .int .u64 x.ver, .int .i64 x.line, .int .i64 x.cls] 70))) => Later.cell p ((HH.out.only OX.out (by simp)).cell 0)
 have c2 := fun (p : Later (w.alloc (.cells #[.string ⟨x.key.toArray⟩, .int .u64 x.id, .int .u64 x.ver, .int .i64 x.line, .int .i64 x.cls] 70))) => Later.cell p ((HH.out.only OX.out (by simp)).cell 2)
 repeat (go_big_quiet_step (fail))
 repeat (go_big_quiet_step (fail))
 refine wpQuiet_nil ?_
 intro _ hw'
 obtain ⟨p, hw''⟩ := hw'
 subst hw''
 have opw := p.only
 generalize p.w = w1 at *
 have O1 := hq9 (OX.out.trans0 opw)
 have B1 := hq9 (BX.out.only opw (by simp))
 have H1 := hq9 (HH.out.only O1.out (by simp))
 have d2 := H1.out.cell 2
 clear opw c0 c2
 obtain ⟨w2, hr2, hb2, o2, s2⟩ := make_rows (P := Tryz.prog) (w := w1) 216 70 i z (linkC noLink) Tryz.underlying216 HI.out HZ.out HS.out HZS.out (by decide) .i64 .i64 0 (2 * m + 1) (Nat.zero_le _) (by calc i.bytes * (2 * m + 1) ≤ 64 * 200001 := Nat.mul_le_mul hb (by omega)
                                        _ ≤ _ := by decide) (by omega)
 rw [show ((0 : Nat) : Int) = 0 from rfl, show ((2 * m + 1 : Nat) : Int) = 2 * (m : Int) + 1 by omega] at hr2
 have V2 := hq9 (RowS.made (k := 5) hb2 rfl (by unfold maxLen; omega))
 have O2 := hq9 (O1.out.trans0 o2)
 have H2 := hq9 (H1.out.only o2 (by simp))
 have R2 := hq9 (HR.out.only O2.out (by simp))
 have B2 := hq9 (B1.out.only o2 (by simp))
 have hg2 : w.heap.size ≤ w1.heap.size := O1.out.size
 have hg3 : w1.heap.size ≤ w2.heap.size := o2.size
 clear hb2 o2 s2
 go_wp2_with fail
 refine wp_region_still_tail 10 (by kernel_rfl) (by kernel_rfl) ?_
 simp only [List.take_succ_cons, List.take_zero, List.drop_succ_cons, List.drop_zero]
 generalize hwd : ({ w2 with drawn := w2.drawn + 1 } : World) = wd
 have OD := hq9 (draw_only hwd)
 clear hwd
 have HD := hq9 (H2.out.only OD.out (by simp))
 have e0 := HD.out.cell 0
 have e1 := HD.out.cell 1
 have RD := hq9 (R2.out.only0 OD.out)
 have hsl := RD.out.sl
 obtain ⟨v3, w3, hr3, r3, o3, l3⟩ := (V2.out.only0 OD.out).append (P := Tryz.prog) 216 216 i z i.bytes Tryz.underlying216 HI.out HZ.out HS.out rfl (by rw [HZS.out]; rfl) (by decide) A m c (L.map linkC) hsl.2 hsl.1.symm (fun y hy => by
  obtain ⟨l, _, rfl⟩ := List.mem_map.1 hy
  exact ⟨rfl, linkC_one l⟩) (by rw [List.length_nil]; unfold maxLen; omega) (by
   rw [List.length_nil]
   calc (0 + m) * i.bytes ≤ 100000 * 64 := Nat.mul_le_mul (by omega) hb
    _ ≤ _ := by decide)
 rw [List.nil_append] at r3
 clear hsl
 repeat still_step
 refine wpStill_nil ?_
 refine wpList_append_run _ rfl (.tmp 22) (.tmp 31) 216 rfl _ _ rfl rfl _ _ hr3 ?_
 have V3 := hq9 r3
 have hw3 := (O2.out.trans0 OD.out).trans o3 (fun b hb => .inr (by
  simp [Value.ownBlock] at hb
  rw [hb]
  exact hg2))
 have O3 := hq9 hw3
 have L3 := hq9 (show ∀ b, v3.ownBlock = some b → w1.heap.size ≤ b from fun b hb => by
  have := OD.out.size
  have := (O2.out).size
  rcases l3 with h | h
  ·rw [h] at hb
   simp [Value.ownBlock] at hb
   omega
  ·rw [h] at hb
   have := Option.some.inj hb
   have := OD.out.size
   omega)
 have og : ∀ b ∈ (Value.slice (some ⟨w1.heap.size, 0, none⟩) 0 (2 * m + 1)).ownBlock.toList, b = w1.heap.size := fun b hb => by simpa [Value.ownBlock] using hb
 have hgl := H1.out.lt
 have hwl := B1.out.lt
 have H3 := hq9 (HD.out.only o3 (fun hb => by have := og g hb; omega))
 have B3 := hq9 ((B2.out.only OD.out (by simp)).only o3 (fun hb => by have := og _ hb; omega))
 have hd3 : w1.heap.size ≤ w3.heap.size := Nat.le_trans hg3 (Nat.le_trans OD.out.size o3.size)
 clear hr3 r3 o3 l3 og e0 e1 hr2 d2
 go_wp2_with fail
 refine wp_region_still_tail 10 (by kernel_rfl) (by kernel_rfl) ?_
 simp only [List.take_succ_cons, List.take_zero, List.drop_succ_cons, List.drop_zero]
 generalize hwd : ({ w3 with drawn := w3.drawn + 1 } : World) = wf
 have OF := hq9 (draw_only hwd)
 clear hwd
 have HF := hq9 (H3.out.only OF.out (by simp))
 have e0 := HF.out.cell 0
 have e1 := HF.out.cell 1
 have VF := hq9 (V3.out.only0 OF.out)
 have BF := hq9 (B3.out.only OF.out (by simp))
 have OO := hq9 (O3.out.trans0 OF.out)
 have hr4 := run_append_of_nil (P := Tryz.prog) wf 0 216 216 70 i 5 Tryz.underlying216 HI.out v3 _ _ VF.out.row A c
 repeat still_step
 refine wpStill_nil ?_
 refine wpList_append_run _ rfl (.tmp 33) (.tmp 42) 216 rfl _ _ rfl rfl _ _ hr4 ?_
 clear hr4
 have b0 := BF.out.cell 0
 have b1 := BF.out.cell 1
 have b2 := BF.out.cell 2
 have b3 := BF.out.cell 3
 have b4 := BF.out.cell 4
 have NB := hq9 (Blk.new wf 70 #[.string ⟨x.key.toArray⟩, .int .u64 x.id, .int .u64 x.ver, .int .i64 x.line, .int .i64 x.cls])
 have OA := hq9 ((Only.refl [] wf).alloc (.cells #[.string ⟨x.key.toArray⟩, .int .u64 x.id, .int .u64 x.ver, .int .i64 x.line, .int .i64 x.cls] 70))
 obtain ⟨v5, w5, hr5, r5, o5, l5⟩ := push_link (VF.out.only0 OA.out) (by omega) (Sl.of_blk (xs := linkC x) (n := 5) NB.out 0 rfl (by simp))
 obtain ⟨A5, c5, rfl, _, _⟩ := r5.slice
 have sz1 : (wf.alloc (.cells #[.string ⟨x.key.toArray⟩, .int .u64 x.id, .int .u64 x.ver, .int .i64 x.line, .int .i64 x.cls] 70)).heap.size = wf.heap.size + 1 := by simp
 have hfl := OF.out.size
 have V5 := hq9 r5
 have hgo : ∀ b ∈ v3.ownBlock.toList, w1.heap.size ≤ b := fun b hb => L3.out b (by
  cases h : v3.ownBlock with
  | none => rw [h] at hb; simp at hb
  | some y => rw [h] at hb; simp at hb; rw [hb])
 have H5 := hq9 ((HF.out.only OA.out (by simp)).only o5 (fun hb => by have := hgo g hb; omega))
 have O5 := hq9 ((OO.out.trans0 OA.out).trans o5 (fun b hb => .inr (by have := hgo b hb; omega)))
 have L5 := hq9 (show ∀ b, (Value.slice A5 (List.map linkC (L ++ [x])).length c5).ownBlock = some b → w1.heap.size ≤ b from fun b hb => by
  rcases l5 with h | h
  ·exact L3.out b (by rw [← h]; exact hb)
  ·rw [h, sz1] at hb
   have := Option.some.inj hb
   omega)
 have k0 := H5.out.cell 0
 have k1 := H5.out.cell 1
 have k2 := H5.out.cell 2
 have z0 := H5.out.frozen 0
 have z1 := H5.out.frozen 1
 have z2 := H5.out.frozen 2
 clear r5 o5 l5 sz1 hgo e0 e1
 go_wp2_with (at_builtin; go_loud (refine wpList_append_run _ rfl (.tmp 46) (.tmp 48) 216 rfl _ _ rfl rfl _ _ hr5 ?_))
 go_end0
 have e5 : (List.map linkC (L ++ [x])).length = L.length + 1 := by simp
 have hv5 := V5.out
 have hl5 := L5.out
 rw [e5] at hv5 hl5
 have os := (((Only.refl [g] w5).setCell (p := ⟨g, 0, none⟩) (.inl (by simp)) (.slice A5 (L.length + 1) c5)).setCell (p := ⟨g, 1, none⟩) (.inl (by simp)) (.int .i64 0)).setCell (p := ⟨g, 2, none⟩) (.inl (by simp)) (.int .i64 ((m : Int) + 1))
 have hgl5 : ∀ b, (Value.slice A5 (L.length + 1) c5).ownBlock = some b → b ≠ g := fun b hb e => by
  have := hl5 b hb
  omega
 refine ⟨.slice A5 (L.length + 1) c5, rfl, ⟨?_, hv5.only os (fun b hb => by simp; exact hgl5 b hb), hgl5⟩, fun b hb => Nat.le_trans hg2 (hl5 b hb), ?_⟩
 ·have hb := ((H5.out.set 0 (.slice A5 (L.length + 1) c5)).set 1 (.int .i64 0)).set 2 (.int .i64 ((m : Int) + 1))
  have e6 : ((L ++ [x]).length : Int) = (m : Int) + 1 := by
   have := HML.out
   simp
   omega
  rw [e6]
  simpa using hb
 ·exact (O5.out.mono (T := [g]) (by simp)).trans os (fun b hb => .inl hb)
end Go.Proofs.YtlggichakafkiaaGreat
namespace Go.Proofs.YtlggichakafkiaaGreat
open Go.BigFrame Go.RowKit Go.Proofs.FuMem Go.Proofs.FuTop
set_option maxRecDepth 100000
theorem LineAt.only {w w' : World} {g : Nat} {v : Value} {L : List Link} {S : List Nat} (h : LineAt w g v L) (ho : Only S w w') (h1 : g ∉ S) (h2 : ∀ b, v.ownBlock = some b → b ∉ S) : LineAt w' g v L := ⟨h.head.only ho h1, h.row.only ho h2, h.ne⟩
set_option maxHeartbeats 1000000 in
theorem line_Push (g : Nat) (v : Value) (L : List Link) (x : Link) (w : World) (h : LineAt w g v L) (hn : L.length ≤ 100000) :
  Calls Tryz.prog 246 #[.pointer (some ⟨g, 0, none⟩), linkV x] w fun e w' => ∃ v', e = .returned (.tuple #[]) ∧ LineAt w' g v' (L ++ [x]) ∧ (∀ b, v'.ownBlock = some b → w.heap.size ≤ b) ∧ Only [g] w w' := by
 have HP := hq9 (fun w h => ring_push g v L x w h hn)
 have H := hq9 h
 have BX := hq9 (Blk.new w 70 #[.string ⟨x.key.toArray⟩, .int .u64 x.id, .int .u64 x.ver, .int .i64 x.line, .int .i64 x.cls])
 have OX := hq9 ((Only.refl [] w).alloc (.cells #[.string ⟨x.key.toArray⟩, .int .u64 x.id, .int .u64 x.ver, .int .i64 x.line, .int .i64 x.cls] 70))
 have HV := hq9 (show (linkV x) = .agg #[.string ⟨x.key.toArray⟩, .int .u64 x.id, .int .u64 x.ver, .int .i64 x.line, .int .i64 x.cls] from rfl)
 rw [HV.out] at HP ⊢
 clear h
 go_enter Tryz.func246, Tryz.ntmps246
 go_wp2_with fail
 refine wp_region_still_tail 4 (by kernel_rfl) (by kernel_rfl) ?_
 simp only [List.take_succ_cons, List.take_zero, List.drop_succ_cons, List.drop_zero]
 generalize hwd : ({ (w.alloc (.cells #[.string ⟨x.key.toArray⟩, .int .u64 x.id, .int .u64 x.ver, .int .i64 x.line, .int .i64 x.cls] 70)) with drawn := (w.alloc (.cells #[.string ⟨x.key.toArray⟩, .int .u64 x.id, .int .u64 x.ver, .int .i64 x.line, .int .i64 x.cls] 70)).drawn + 1 } : World) = wd
 have OD := hq9 (OX.out.trans0 (draw_only hwd))
 have BD := hq9 (BX.out.only (draw_only hwd) (by simp))
 clear hwd
 have b0 := BD.out.cell 0
 have b1 := BD.out.cell 1
 have b2 := BD.out.cell 2
 have b3 := BD.out.cell 3
 have b4 := BD.out.cell 4
 repeat still_step
 refine wpStill_nil ?_
 go_wp2_with fail
 refine (HP.out wd (H.out.only OD.out (by simp) (by simp))).mono ?_
 rintro e w2 ⟨v2, rfl, l2, n2, o2⟩
 have L2 := hq9 l2
 have N2 := hq9 n2
 have O2 := hq9 ((OD.out.mono (T := [g]) (by simp)).trans o2 (fun b hb => .inl hb))
 have hs := OD.out.size
 clear l2 n2 o2
 go_wp2
 go_end0
 exact ⟨v2, rfl, L2.out, fun b hb => Nat.le_trans hs (N2.out b hb), O2.out⟩
set_option maxHeartbeats 2000000 in
theorem ring_all (g : Nat) (v : Value) (L : List Link) (w : World) (h : LineAt w g v L) (hn : L.length ≤ 100000) :
  Calls Tryz.prog 155 #[.pointer (some ⟨g, 0, none⟩)] w fun e w' => ∃ v, e = .returned v ∧ MadeR 70 5 w (L.map linkC) v w' := by
 obtain ⟨A, c, rfl, hc, hcm⟩ := h.row.slice
 obtain ⟨m, hm⟩ : ∃ m, m = (L.map linkC).length := ⟨_, rfl⟩
 rw [← hm] at h hc
 have hml : m = L.length := by rw [hm, List.length_map]
 have hh := h.head
 rw [← hml] at hh
 have c2 := hh.cell 2
 have HH := hq9 hh
 have HR := hq9 h.row
 have HML := hq9 hml
 clear h hm hml hh
 go_enter Tryz.func155, Tryz.ntmps155
 go_wp2
 go_loopw [3, 9] (fun u i wr => ∃ k : Nat, k ≤ m ∧ i = .int .i64 k ∧ RowS 70 5 wr u ((L.take k).map linkC) ∧ (∀ b, u.ownBlock = some b → w.heap.size ≤ b) ∧ Only [] w wr) (fun _ i _ => m - (intOf i).toNat)
 case atStart => exact ⟨0, by omega, rfl, RowS.nil _ _ _, fun b hb => (by cases hb), Only.refl _ _⟩
 case round =>
  obtain ⟨k, hk, rfl, hr, hb, ho⟩ := hrel
  have R := hq9 hr
  have B := hq9 hb
  have ON := hq9 ho
  clear hr hb ho
  by_cases hlt : k < m
  ·have q1 : decide ((k : Int) < (m : Int)) = true := by go_num
   have hkl : k < L.length := by have := HML.out; omega
   have hkm : k < (L.map linkC).length := by rw [List.length_map]; exact hkl
   obtain ⟨gb, rfl, hc⟩ := (HR.out.only ON.out (by simp)).cell (A := A) (n := m) (c := c) hkm
   have HX := hq9 (show L[k]? = some L[k] from List.getElem?_eq_getElem hkl)
   have he : (L.map linkC)[k] = linkC L[k] := by rw [List.getElem_map]
   generalize L[k] = x at *
   rw [he] at hc
   obtain ⟨o, ho⟩ : ∃ o, o = k * 5 := ⟨_, rfl⟩
   have e0 : wr.cell? ⟨gb, o, none⟩ = some (.string ⟨x.key.toArray⟩) := by rw [ho]; exact hc 0 (by omega)
   have e1 : wr.cell? ⟨gb, o + 1, none⟩ = some (.int .u64 x.id) := by rw [ho]; exact hc 1 (by omega)
   have e2 : wr.cell? ⟨gb, o + 2, none⟩ = some (.int .u64 x.ver) := by rw [ho]; exact hc 2 (by omega)
   have e3 : wr.cell? ⟨gb, o + 3, none⟩ = some (.int .i64 x.line) := by rw [ho]; exact hc 3 (by omega)
   have e4 : wr.cell? ⟨gb, o + 4, none⟩ = some (.int .i64 x.cls) := by rw [ho]; exact hc 4 (by omega)
   have hh' := HH.out.only ON.out (by simp)
   have g0 : wr.drew.cell? ⟨g, 0, none⟩ = some (.slice (some ⟨gb, 0, none⟩) m c) := hh'.cell 0
   have g1 : wr.drew.cell? ⟨g, 1, none⟩ = some (.int .i64 0) := hh'.cell 1
   have HO := hq9 ho
   have hmod : Int.tmod (k : Int) (m : Int) = (k : Int) := Int.tmod_eq_of_lt (by omega) (by omega)
   have hmul : k * 5 = o := by omega
   have hmz : ¬ (m = 0) := by omega
   have hkz : (0 : Int) ≤ (k : Int) := by omega
   have hkm2 : (k : Int) < (m : Int) := by omega
   have hwk : IntKind.i64.wrap (k : Int) = (k : Int) := by rw [IntKind.wrap_i64]; omega
   have NB := hq9 (Blk.new wr 70 #[.string ⟨x.key.toArray⟩, .int .u64 x.id, .int .u64 x.ver, .int .i64 x.line, .int .i64 x.cls])
   have OA := hq9 (((Only.refl [] wr).alloc (.cells #[.string ⟨x.key.toArray⟩, .int .u64 x.id, .int .u64 x.ver, .int .i64 x.line, .int .i64 x.cls] 70)).drew)
   obtain ⟨v5, w5, hr5, r5, o5, l5⟩ := push_link (w := (wr.alloc (.cells #[.string ⟨x.key.toArray⟩, .int .u64 x.id, .int .u64 x.ver, .int .i64 x.line, .int .i64 x.cls] 70)).drew) (R.out.only0 OA.out) (by rw [List.length_take]; omega) (Sl.of_blk (w := (wr.alloc (.cells #[.string ⟨x.key.toArray⟩, .int .u64 x.id, .int .u64 x.ver, .int .i64 x.line, .int .i64 x.cls] 70)).drew) (xs := linkC x) (n := 5) NB.out 0 rfl (by simp))
   have R5 := hq9 r5
   have O5 := hq9 o5
   have L5 := hq9 l5
   have hha := HH.out.only (ON.out.trans0 OA.out) (by simp)
   have n0 : (wr.alloc (.cells #[.string ⟨x.key.toArray⟩, .int .u64 x.id, .int .u64 x.ver, .int .i64 x.line, .int .i64 x.cls] 70)).drew.cell? ⟨g, 0, none⟩ = some (.slice (some ⟨gb, 0, none⟩) m c) := hha.cell 0
   have n1 : (wr.alloc (.cells #[.string ⟨x.key.toArray⟩, .int .u64 x.id, .int .u64 x.ver, .int .i64 x.line, .int .i64 x.cls] 70)).drew.cell? ⟨g, 1, none⟩ = some (.int .i64 0) := hha.cell 1
   have hgl := HH.out.lt
   have hgb := HR.out.lt gb rfl
   have hu3 : ∀ b ∈ u3.ownBlock.toList, w.heap.size ≤ b := fun b hb => B.out b (by
    cases h : u3.ownBlock with
    | none => rw [h] at hb; simp at hb
    | some y => rw [h] at hb; simp at hb; rw [hb])
   have hh5 := hha.only o5 (fun hb => by have := hu3 g hb; omega)
   have m0 : w5.cell? ⟨g, 0, none⟩ = some (.slice (some ⟨gb, 0, none⟩) m c) := hh5.cell 0
   have m1 : w5.cell? ⟨g, 1, none⟩ = some (.int .i64 0) := hh5.cell 1
   have hr5' := ((HR.out.only (ON.out.trans0 OA.out) (by simp)).only o5 (fun b hb hbm => by
    have hb' : gb = b := Option.some.inj hb
    have := hu3 b hbm
    omega))
   obtain ⟨gb', hgg, hc5⟩ := hr5'.cell hkm
   rw [he, ← ho] at hc5
   cases hgg
   have f0 : w5.cell? ⟨gb, o, none⟩ = some (.string ⟨x.key.toArray⟩) := hc5 0 (by omega)
   have f1 : w5.cell? ⟨gb, o + 1, none⟩ = some (.int .u64 x.id) := hc5 1 (by omega)
   have f2 : w5.cell? ⟨gb, o + 2, none⟩ = some (.int .u64 x.ver) := hc5 2 (by omega)
   have f3 : w5.cell? ⟨gb, o + 3, none⟩ = some (.int .i64 x.line) := hc5 3 (by omega)
   have f4 : w5.cell? ⟨gb, o + 4, none⟩ = some (.int .i64 x.cls) := hc5 4 (by omega)
   have hs5 : w.heap.size ≤ wr.heap.size := ON.out.size
   clear r5 o5 l5 hc ho hh' he c2 hha hh5 hr5' hc5
   go_wp2_with fail
   have HRG := hq9 (show ∀ W : World, W.cell? ⟨gb, o, none⟩ = some (.string ⟨x.key.toArray⟩) → W.cell? ⟨gb, o + 1, none⟩ = some (.int .u64 x.id) → W.cell? ⟨gb, o + 2, none⟩ = some (.int .u64 x.ver) → W.cell? ⟨gb, o + 3, none⟩ = some (.int .i64 x.line) → W.cell? ⟨gb, o + 4, none⟩ = some (.int .i64 x.cls) → W.rangeAt gb o [.string ⟨x.key.toArray⟩, .int .u64 x.id, .int .u64 x.ver, .int .i64 x.line, .int .i64 x.cls] from fun W h0 h1 h2 h3 h4 j v hj => by
    rcases j with _ | _ | _ | _ | _ | j
    ·injection hj with hj; subst hj; exact h0
    ·injection hj with hj; subst hj; exact h1
    ·injection hj with hj; subst hj; exact h2
    ·injection hj with hj; subst hj; exact h3
    ·injection hj with hj; subst hj; exact h4
    ·simp at hj)
   have s0 := And.intro g0 (And.intro g1 (HRG.out _ e0 e1 e2 e3 e4))
   have keepA : ∀ (q : Nat) (v : Value), wr.cell? ⟨gb, q, none⟩ = some v → (wr.alloc (.cells #[.string ⟨x.key.toArray⟩, .int .u64 x.id, .int .u64 x.ver, .int .i64 x.line, .int .i64 x.cls] 70)).drew.cell? ⟨gb, q, none⟩ = some v := fun q v hq => by rw [cell_only OA.out (lt_of_cell hq) (by simp)]; exact hq
   have sA := And.intro n0 (And.intro n1 (HRG.out _ (keepA _ _ e0) (keepA _ _ e1) (keepA _ _ e2) (keepA _ _ e3) (keepA _ _ e4)))
   have s5 := And.intro m0 (And.intro m1 (HRG.out _ f0 f1 f2 f3 f4))
   clear keepA
   refine wp_region_noPanic ?_
   refine wp_region_held_drew (S := fun w' => w'.cell? ⟨g, 0, none⟩ = some (.slice (some ⟨gb, 0, none⟩) m c) ∧ w'.cell? ⟨g, 1, none⟩ = some (.int .i64 0) ∧ w'.rangeAt gb o [.string ⟨x.key.toArray⟩, .int .u64 x.id, .int .u64 x.ver, .int .i64 x.line, .int .i64 x.cls]) (by kernel_rfl) s0 (fun hHeld => ?_)
   refine wpAnyH_take (i := 0) (oi := ⟨_, _, _, _, _, _⟩) (v := ?_) rfl (by kernel_rfl) (by kernel_rfl) (by kernel_rfl) (fun _ _ _ h => h) (Or.inl ⟨by rfl, ?_⟩) hHeld ?_
   rotate_left 1
   (intro w hSw; (try dsimp only at hSw); go_simp)
   (try with_reducible rfl)
   (try simp only [Act.put, List.setIfInBounds_toArray, List.set_cons_zero, List.set_cons_succ])
   refine wpAnyH_take (i := 1) (oi := ⟨_, _, _, _, _, _⟩) (v := ?_) rfl (by kernel_rfl) (by kernel_rfl) (by kernel_rfl) (fun _ _ _ h => h) (Or.inl ⟨by rfl, ?_⟩) hHeld ?_
   rotate_left 1
   (intro w hSw; (try dsimp only at hSw); go_simp)
   (try with_reducible rfl)
   (try simp only [Act.put, List.setIfInBounds_toArray, List.set_cons_zero, List.set_cons_succ])
   refine wpAnyH_take (i := 2) (oi := ⟨_, _, _, _, _, _⟩) (v := ?_) rfl (by kernel_rfl) (by kernel_rfl) (by kernel_rfl) (fun _ _ _ h => h) (Or.inl ⟨by rfl, ?_⟩) hHeld ?_
   rotate_left 1
   (intro w hSw; (try dsimp only at hSw); go_simp)
   (try with_reducible rfl)
   (try simp only [Act.put, List.setIfInBounds_toArray, List.set_cons_zero, List.set_cons_succ])
   refine wpAnyH_take (i := 3) (oi := ⟨_, _, _, _, _, _⟩) (v := ?_) rfl (by kernel_rfl) (by kernel_rfl) (by kernel_rfl) (fun _ _ _ h => h) (Or.inl ⟨by rfl, ?_⟩) hHeld ?_
   rotate_left 1
   (intro w hSw; (try dsimp only at hSw); go_simp)
   (try with_reducible rfl)
   (try simp only [Act.put, List.setIfInBounds_toArray, List.set_cons_zero, List.set_cons_succ])
   refine wpAnyH_take (i := 4) (oi := ⟨_, _, _, _, _, _⟩) (v := ?_) rfl (by kernel_rfl) (by kernel_rfl) (by kernel_rfl) (fun _ _ _ h => h) (Or.inl ⟨by rfl, ?_⟩) hHeld ?_
   rotate_left 1
   (intro w hSw; (try dsimp only at hSw); go_simp)
   (try with_reducible rfl)
   (try simp only [Act.put, List.setIfInBounds_toArray, List.set_cons_zero, List.set_cons_succ])
   refine wpAnyH_take (i := 5) (oi := ⟨_, _, _, _, _, _⟩) (v := ?_) rfl (by kernel_rfl) (by kernel_rfl) (by kernel_rfl) (fun _ _ _ h => h) (Or.inl ⟨by rfl, ?_⟩) hHeld ?_
   rotate_left 1
   (intro w hSw; (try dsimp only at hSw); go_simp)
   (try with_reducible rfl)
   (try simp only [Act.put, List.setIfInBounds_toArray, List.set_cons_zero, List.set_cons_succ])
   refine wpAnyH_take (i := 6) (oi := ⟨_, _, _, _, _, _⟩) (v := ?_) rfl (by kernel_rfl) (by kernel_rfl) (by kernel_rfl) (fun _ _ _ h => h) (Or.inl ⟨by rfl, ?_⟩) hHeld ?_
   rotate_left 1
   (intro w hSw; (try dsimp only at hSw); go_simp)
   (try with_reducible rfl)
   (try simp only [Act.put, List.setIfInBounds_toArray, List.set_cons_zero, List.set_cons_succ])
   refine wpAnyH_take (i := 7) (oi := ⟨_, _, _, _, _, _⟩) (v := ?_) rfl (by kernel_rfl) (by kernel_rfl) (by kernel_rfl) (fun _ _ _ h => h) (Or.inl ⟨by rfl, ?_⟩) hHeld ?_
   rotate_left 1
   (intro w hSw; (try dsimp only at hSw); go_simp)
   (try with_reducible rfl)
   (try simp only [Act.put, List.setIfInBounds_toArray, List.set_cons_zero, List.set_cons_succ])
   refine wpAnyH_take (i := 8) (oi := ⟨_, _, _, _, _, _⟩) (v := ?_) rfl (by kernel_rfl) (by kernel_rfl) (by kernel_rfl) (fun _ _ _ h => h) (Or.inl ⟨by rfl, ?_⟩) hHeld ?_
   rotate_left 1
   (intro w hSw; (try dsimp only at hSw); go_simp)
   (try with_reducible rfl)
   (try simp only [Act.put, List.setIfInBounds_toArray, List.set_cons_zero, List.set_cons_succ])
   refine wpAnyH_take (i := 9) (oi := ⟨_, _, _, _, _, _⟩) (v := ?_) rfl (by kernel_rfl) (by kernel_rfl) (by kernel_rfl) (fun _ _ _ h => h) (Or.inl ⟨by rfl, ?_⟩) hHeld ?_
   rotate_left 1
   (intro w hSw; (try dsimp only at hSw); go_simp)
   (try with_reducible rfl)
   (try simp only [Act.put, List.setIfInBounds_toArray, List.set_cons_zero, List.set_cons_succ])
   refine wpAnyH_take (i := 10) (oi := ⟨_, _, _, _, _, _⟩) (v := ?_) rfl (by kernel_rfl) (by kernel_rfl) (by kernel_rfl) (fun _ _ _ h => h) (Or.inl ⟨by rfl, ?_⟩) hHeld ?_
   rotate_left 1
   (intro w hSw; (try dsimp only at hSw); go_simp)
   (try with_reducible rfl)
   (try simp only [Act.put, List.setIfInBounds_toArray, List.set_cons_zero, List.set_cons_succ])
   refine wpAnyH_take (i := 11) (oi := ⟨_, _, _, _, _, _⟩) (v := ?_) rfl (by kernel_rfl) (by kernel_rfl) (by kernel_rfl) (fun _ _ _ h => h) (Or.inl ⟨by rfl, ?_⟩) hHeld ?_
   rotate_left 1
   (intro w hSw; (try dsimp only at hSw); go_simp)
   (try with_reducible rfl)
   (try simp only [Act.put, List.setIfInBounds_toArray, List.set_cons_zero, List.set_cons_succ])
   refine wpAnyH_take (i := 12) (oi := ⟨_, _, _, _, _, _⟩) (v := ?_) rfl (by kernel_rfl) (by kernel_rfl) (by kernel_rfl) (fun _ _ _ h => h) (Or.inl ⟨by rfl, ?_⟩) hHeld ?_
   rotate_left 1
   (intro w hSw; (try dsimp only at hSw); go_simp)
   (try with_reducible rfl)
   (try simp only [Act.put, List.setIfInBounds_toArray, List.set_cons_zero, List.set_cons_succ])
   refine wpAnyH_take (i := 13) (oi := ⟨_, _, _, _, _, _⟩) (v := ?_) rfl (by kernel_rfl) (by kernel_rfl) (by kernel_rfl) (fun _ _ _ h => h) (Or.inl ⟨by rfl, ?_⟩) hHeld ?_
   rotate_left 1
   (intro w hSw; (try dsimp only at hSw); go_simp)
   (try with_reducible rfl)
   (try simp only [Act.put, List.setIfInBounds_toArray, List.set_cons_zero, List.set_cons_succ])
   refine wpAnyH_take (i := 14) (oi := ⟨_, _, _, _, _, _⟩) (v := ?_) rfl (by kernel_rfl) (by kernel_rfl) (by kernel_rfl) (fun _ _ _ h => h) (Or.inl ⟨by rfl, ?_⟩) hHeld ?_
   rotate_left 1
   (intro w hSw; (try dsimp only at hSw); go_simp)
   (try with_reducible rfl)
   (try simp only [Act.put, List.setIfInBounds_toArray, List.set_cons_zero, List.set_cons_succ])
   refine wpAnyH_take (i := 15) (oi := ⟨_, _, _, _, _, _⟩) (v := ?_) rfl (by kernel_rfl) (by kernel_rfl) (by kernel_rfl) (fun _ _ _ h => h) (Or.inl ⟨by rfl, ?_⟩) hHeld ?_
   rotate_left 1
   (intro w hSw; (try dsimp only at hSw); go_simp)
   (try with_reducible rfl)
   (try simp only [Act.put, List.setIfInBounds_toArray, List.set_cons_zero, List.set_cons_succ])
   refine wpAnyH_take (i := 16) (oi := ⟨_, _, _, _, _, _⟩) (v := ?_) rfl (by kernel_rfl) (by kernel_rfl) (by kernel_rfl) (fun _ _ _ h => h) (Or.inl ⟨by rfl, ?_⟩) hHeld ?_
   rotate_left 1
   (intro w hSw; (try dsimp only at hSw); go_simp)
   (try with_reducible rfl)
   (try simp only [Act.put, List.setIfInBounds_toArray, List.set_cons_zero, List.set_cons_succ])
   refine wpAnyH_take (i := 17) (oi := ⟨_, _, _, _, _, _⟩) (v := ?_) rfl (by kernel_rfl) (by kernel_rfl) (by kernel_rfl) (fun _ _ _ h => h) (Or.inl ⟨by rfl, ?_⟩) hHeld ?_
   rotate_left 1
   (intro w hSw; (try dsimp only at hSw); go_simp)
   (try with_reducible rfl)
   (try simp only [Act.put, List.setIfInBounds_toArray, List.set_cons_zero, List.set_cons_succ])
   refine wpAnyH_take (i := 18) (oi := ⟨_, _, _, _, _, _⟩) (v := _) rfl (by kernel_rfl) (by kernel_rfl) (by kernel_rfl) (fun _ _ _ h => h) (yieldsIf_load_mid (by rfl) 70 (.tmp 29) rfl gb o rfl [.string ⟨x.key.toArray⟩, .int .u64 x.id, .int .u64 x.ver, .int .i64 x.line, .int .i64 x.cls] _ (fun w h => h.2.2) Tryz.underlying70 rfl (by kernel_rfl)) hHeld ?_
   (try simp only [Act.put, List.setIfInBounds_toArray, List.set_cons_zero, List.set_cons_succ])
   refine wpAnyH_ready (rs := [19]) (by kernel_rfl) (by simp) ?_
   refine AllReadyH.cons (o := ⟨_, _, _, _, _, _⟩) rfl (fun K hK => ?_) AllReadyH.nil
   go_simp
   refine hK.out _ _ (sA) (fun hHeld => ?_)
   clear hK K
   (try simp only [Act.put, List.setIfInBounds_toArray, List.set_cons_zero, List.set_cons_succ])
   refine wpAnyH_ready (rs := [20]) (by kernel_rfl) (by simp) ?_
   refine AllReadyH.cons (o := ⟨_, _, _, _, _, _⟩) rfl (fun K hK => ?_) AllReadyH.nil
   rw [if_pos (by rfl)]
   refine wp_append_run (.tmp 12) (.tmp 31) 216 rfl _ _ rfl rfl _ _ hr5 ?_
   refine hK.out _ _ (s5) (fun hHeld => ?_)
   clear hK K
   (try simp only [Act.put, List.setIfInBounds_toArray, List.set_cons_zero, List.set_cons_succ])
   refine wpAnyH_take (i := 21) (oi := ⟨_, _, _, _, _, _⟩) (v := ?_) rfl (by kernel_rfl) (by kernel_rfl) (by kernel_rfl) (fun _ _ _ h => h) (Or.inl ⟨by rfl, ?_⟩) hHeld ?_
   rotate_left 1
   (intro w hSw; (try dsimp only at hSw); go_simp)
   (try with_reducible rfl)
   (try simp only [Act.put, List.setIfInBounds_toArray, List.set_cons_zero, List.set_cons_succ])
   refine wpAnyH_done (by kernel_rfl) ?_ _
   refine NoPanic.normal ?_
   (try simp only [Act.put, List.setIfInBounds_toArray, List.set_cons_zero, List.set_cons_succ])
   clear s0 sA s5
   clear e0 e1 e2 e3 e4 f0 f1 f2 f3 f4 g0 g1 n0 n1 m0 m1 hmod hmul hmz hkz hkm2
   go_wp2
   have hx5 := R5.out
   have et : (L.take k ++ [x]) = L.take (k + 1) := by rw [List.take_add_one, HX.out]; rfl
   rw [et] at hx5
   refine ⟨⟨k + 1, by omega, rfl, hx5, fun b hb => ?_, ?_⟩, by simp [intOf]; omega⟩
   ·rcases L5.out with h | h
    ·exact B.out b (by rw [← h]; exact hb)
    ·rw [h] at hb
     have := Option.some.inj hb
     have e : ((wr.alloc (.cells #[.string ⟨x.key.toArray⟩, .int .u64 x.id, .int .u64 x.ver, .int .i64 x.line, .int .i64 x.cls] 70)).drew).heap.size = wr.heap.size + 1 := by simp
     omega
   ·exact (ON.out.trans0 OA.out).trans O5.out (fun b hb => .inr (hu3 b hb))
  ·have q1 : decide ((k : Int) < (m : Int)) = false := by go_num
   go_wp2
   go_ret
   have ek : k = L.length := by have := HML.out; omega
   have hv := R.out
   rw [ek, List.take_length] at hv
   exact ⟨u3, rfl, hv, B.out, ON.out⟩
theorem line_All (g : Nat) (v : Value) (L : List Link) (w : World) (h : LineAt w g v L) (hn : L.length ≤ 100000) :
  Calls Tryz.prog 114 #[.pointer (some ⟨g, 0, none⟩)] w fun e w' => ∃ v, e = .returned v ∧ MadeR 70 5 w (L.map linkC) v w' := by
 have HP := hq9 (fun w h => ring_all g v L w h hn)
 have H := hq9 h
 clear h
 go_enter Tryz.func114, Tryz.ntmps114
 go_wp2_with fail
 refine (HP.out w H.out).mono ?_
 rintro e w' ⟨v, rfl, hv⟩
 have HV := hq9 hv
 clear hv
 go_wp2
 go_ret
 exact ⟨v, rfl, HV.out⟩
end Go.Proofs.YtlggichakafkiaaGreat
namespace Go.Proofs.YtlggichakafkiaaGreat
open Go.RowKit Go.Maps Go.Sort Go.Shelf
def laysKeys_ren : Go.Shelf.Ren := ⟨fun | 7 => 362 | 10 => 388 | n => n, fun | 23 => 274 | 26 => 9 | 3 => 70 | 28 => 477 | 0 => 0 | 27 => 476 | 33 => 496 | 4 => 4 | n => n, fun | n => n⟩
theorem laysKeys : Go.Proofs.SlLaysZ.n7 Tryz.prog laysKeys_ren := {
 mixed := by kernel_rfl
 f7 := ⟨Tryz.f362.name, by decide, Tryz.func362.trans (congrArg some (by kernel_rfl))⟩
 f10 := ⟨Tryz.f388.name, by decide, Tryz.func388.trans (congrArg some (by kernel_rfl))⟩
 t0 := Tryz.underlying0
 a0 := Tryz.isAgg0
 z0 := Tryz.sizeOf0
 v0 := Tryz.zeroValue0
 t4 := Tryz.underlying4
 a4 := Tryz.isAgg4
 z4 := Tryz.sizeOf4
 v4 := Tryz.zeroValue4
 t23 := Tryz.underlying274
 a23 := Tryz.isAgg274
 z23 := Tryz.sizeOf274
 v23 := Tryz.zeroValue274
 t26 := Tryz.underlying9
 a26 := Tryz.isAgg9
 z26 := Tryz.sizeOf9
 v26 := Tryz.zeroValue9
 t27 := Tryz.underlying476
 a27 := Tryz.isAgg476
 z27 := Tryz.sizeOf476
 v27 := Tryz.zeroValue476
 t28 := Tryz.underlying477
 a28 := Tryz.isAgg477
 z28 := Tryz.sizeOf477
 v28 := Tryz.zeroValue477
 t33 := Tryz.underlying496
 a33 := Tryz.isAgg496
 z33 := Tryz.sizeOf496
 v33 := Tryz.zeroValue496 }
def laysSorted_ren : Go.Shelf.Ren := ⟨fun | 6 => 361 | 8 => 386 | 9 => 387 | 11 => 410 | 13 => 188 | 12 => 411 | 23 => 230 | 24 => 231 | 14 => 420 | 15 => 421 | 16 => 422 | 17 => 423 | 18 => 424 | 19 => 425 | 20 => 426 | 21 => 427 | 22 => 428 | 25 => 430 | 26 => 287 | 27 => 288 | 28 => 431 | 29 => 432 | 30 => 433 | 31 => 434 | n => n, fun | 26 => 9 | 28 => 477 | 24 => 58 | 0 => 0 | 3 => 3 | 37 => 140 | 48 => 200 | 50 => 50 | 4 => 4 | 40 => 381 | 39 => 380 | 45 => 385 | 5 => 5 | 9 => 9 | 51 => 409 | 55 => 412 | 57 => 462 | 58 => 463 | 33 => 496 | n => n, fun | n => n⟩
theorem laysSorted : Go.Proofs.SlLaysZ.n6 Tryz.prog laysSorted_ren := {
 mixed := by kernel_rfl
 f6 := ⟨Tryz.f361.name, by decide, Tryz.func361.trans (congrArg some (by kernel_rfl))⟩
 f8 := ⟨Tryz.f386.name, by decide, Tryz.func386.trans (congrArg some (by kernel_rfl))⟩
 f11 := ⟨Tryz.f410.name, by decide, Tryz.func410.trans (congrArg some (by kernel_rfl))⟩
 t0 := Tryz.underlying0
 a0 := Tryz.isAgg0
 z0 := Tryz.sizeOf0
 v0 := Tryz.zeroValue0
 t24 := Tryz.underlying58
 a24 := Tryz.isAgg58
 z24 := Tryz.sizeOf58
 v24 := Tryz.zeroValue58
 t26 := Tryz.underlying9
 a26 := Tryz.isAgg9
 z26 := Tryz.sizeOf9
 v26 := Tryz.zeroValue9
 t28 := Tryz.underlying477
 a28 := Tryz.isAgg477
 z28 := Tryz.sizeOf477
 v28 := Tryz.zeroValue477
 i26 := by kernel_rfl }
def laysSortStr_ren : Go.Shelf.Ren := ⟨fun | 6 => 387 | 8 => 188 | 9 => 411 | 19 => 230 | 20 => 231 | 21 => 420 | 22 => 421 | 23 => 422 | 24 => 423 | 25 => 424 | 26 => 425 | 27 => 426 | 28 => 427 | 29 => 428 | 36 => 430 | 31 => 287 | 32 => 288 | 37 => 431 | 38 => 432 | 39 => 433 | 41 => 434 | n => n, fun | 27 => 58 | 29 => 9 | 3 => 3 | 32 => 140 | 26 => 58 | 0 => 0 | 44 => 200 | 46 => 50 | 4 => 4 | 36 => 381 | 35 => 380 | 41 => 385 | 5 => 5 | 9 => 9 | 53 => 409 | 57 => 412 | 63 => 462 | 64 => 463 | n => n, fun | n => n⟩
theorem laysSortStr : Go.Proofs.SlLaysM.n6 Tryz.prog laysSortStr_ren := {
 mixed := by kernel_rfl
 f6 := ⟨Tryz.f387.name, by decide, Tryz.func387.trans (congrArg some (by kernel_rfl))⟩
 f8 := Tryz.func188.trans (congrArg some (by kernel_rfl))
 f9 := ⟨Tryz.f411.name, by decide, Tryz.func411.trans (congrArg some (by kernel_rfl))⟩
 f19 := Tryz.func230.trans (congrArg some (by kernel_rfl))
 f20 := Tryz.func231.trans (congrArg some (by kernel_rfl))
 f21 := ⟨Tryz.f420.name, by decide, Tryz.func420.trans (congrArg some (by kernel_rfl))⟩
 f22 := ⟨Tryz.f421.name, by decide, Tryz.func421.trans (congrArg some (by kernel_rfl))⟩
 f23 := ⟨Tryz.f422.name, by decide, Tryz.func422.trans (congrArg some (by kernel_rfl))⟩
 f24 := ⟨Tryz.f423.name, by decide, Tryz.func423.trans (congrArg some (by kernel_rfl))⟩
 f25 := ⟨Tryz.f424.name, by decide, Tryz.func424.trans (congrArg some (by kernel_rfl))⟩
 f26 := ⟨Tryz.f425.name, by decide, Tryz.func425.trans (congrArg some (by kernel_rfl))⟩
 f27 := ⟨Tryz.f426.name, by decide, Tryz.func426.trans (congrArg some (by kernel_rfl))⟩
 f28 := ⟨Tryz.f427.name, by decide, Tryz.func427.trans (congrArg some (by kernel_rfl))⟩
 f29 := ⟨Tryz.f428.name, by decide, Tryz.func428.trans (congrArg some (by kernel_rfl))⟩
 f31 := Tryz.func287.trans (congrArg some (by kernel_rfl))
 f32 := Tryz.func288.trans (congrArg some (by kernel_rfl))
 f36 := ⟨Tryz.f430.name, by decide, Tryz.func430.trans (congrArg some (by kernel_rfl))⟩
 f37 := ⟨Tryz.f431.name, by decide, Tryz.func431.trans (congrArg some (by kernel_rfl))⟩
 f38 := ⟨Tryz.f432.name, by decide, Tryz.func432.trans (congrArg some (by kernel_rfl))⟩
 f39 := ⟨Tryz.f433.name, by decide, Tryz.func433.trans (congrArg some (by kernel_rfl))⟩
 f41 := ⟨Tryz.f434.name, by decide, Tryz.func434.trans (congrArg some (by kernel_rfl))⟩
 t0 := Tryz.underlying0
 a0 := Tryz.isAgg0
 z0 := Tryz.sizeOf0
 v0 := Tryz.zeroValue0
 t3 := Tryz.underlying3
 a3 := Tryz.isAgg3
 z3 := Tryz.sizeOf3
 v3 := Tryz.zeroValue3
 t4 := Tryz.underlying4
 a4 := Tryz.isAgg4
 z4 := Tryz.sizeOf4
 v4 := Tryz.zeroValue4
 t5 := Tryz.underlying5
 a5 := Tryz.isAgg5
 z5 := Tryz.sizeOf5
 v5 := Tryz.zeroValue5
 t9 := Tryz.underlying9
 a9 := Tryz.isAgg9
 z9 := Tryz.sizeOf9
 v9 := Tryz.zeroValue9
 t26 := Tryz.underlying58
 a26 := Tryz.isAgg58
 z26 := Tryz.sizeOf58
 v26 := Tryz.zeroValue58
 t27 := Tryz.underlying58
 a27 := Tryz.isAgg58
 z27 := Tryz.sizeOf58
 v27 := Tryz.zeroValue58
 t29 := Tryz.underlying9
 a29 := Tryz.isAgg9
 z29 := Tryz.sizeOf9
 v29 := Tryz.zeroValue9
 t32 := Tryz.underlying140
 a32 := Tryz.isAgg140
 z32 := Tryz.sizeOf140
 v32 := Tryz.zeroValue140
 t35 := Tryz.underlying380
 a35 := Tryz.isAgg380
 z35 := Tryz.sizeOf380
 v35 := Tryz.zeroValue380
 t36 := Tryz.underlying381
 a36 := Tryz.isAgg381
 z36 := Tryz.sizeOf381
 v36 := Tryz.zeroValue381
 t41 := Tryz.underlying385
 a41 := Tryz.isAgg385
 z41 := Tryz.sizeOf385
 v41 := Tryz.zeroValue385
 t44 := Tryz.underlying200
 a44 := Tryz.isAgg200
 z44 := Tryz.sizeOf200
 v44 := Tryz.zeroValue200
 t46 := Tryz.underlying50
 a46 := Tryz.isAgg50
 z46 := Tryz.sizeOf50
 v46 := Tryz.zeroValue50
 t53 := Tryz.underlying409
 a53 := Tryz.isAgg409
 z53 := Tryz.sizeOf409
 v53 := Tryz.zeroValue409
 t57 := Tryz.underlying412
 a57 := Tryz.isAgg412
 z57 := Tryz.sizeOf412
 v57 := Tryz.zeroValue412
 t63 := Tryz.underlying462
 a63 := Tryz.isAgg462
 z63 := Tryz.sizeOf462
 v63 := Tryz.zeroValue462
 t64 := Tryz.underlying463
 a64 := Tryz.isAgg463
 z64 := Tryz.sizeOf463
 v64 := Tryz.zeroValue463 }
theorem sortsStr (m : Nat) : AnyZ.SortsIn Tryz.prog laysSorted_ren Fence.wide m :=
 ⟨fun blk off cap ss W hH hblk hsz => callsIn_wide.2 (AnyM.slices_Sort_string laysSortStr blk off cap ss W hH hblk hsz),
 fun p cap W => callsIn_wide.2 (AnyM.slices_Sort_string_none laysSortStr p cap W)⟩
theorem keys_of_map (mb : Option Nat) (W : World) : CallsIn Fence.wide 5 Tryz.prog 362 #[.map mb] W fun e w' => e = .returned (.func (.func 388) #[] #[.pointer (some ⟨W.heap.size, 0, none⟩)]) ∧ w' = W.alloc (.cells #[.map mb] 274) :=
 AnyZ.keys_in laysKeys Fence.wide 5 trivial rfl mb W
set_option maxHeartbeats 1000000 in
theorem sorted_keys {H : Type} (b nn : Nat) (D0 : DataW H) (R : Value → Option (DataW H × List MemPlace)) (w : World) (hown : w.ownsMap Tryz.prog 9 R b nn D0) (hmax : Maps.size D0 ≤ maxLen) (hbytes : Maps.size D0 * 16 ≤ 140737488355328) :
  CallsIn Fence.wide 5 Tryz.prog 361 #[.func (.func 388) #[] #[.pointer (some ⟨w.heap.size, 0, none⟩)]] (w.alloc (.cells #[.map (some b)] 274)) fun e w' => ∃ (v : Value) (ss : List (List UInt8)), e = .returned v ∧ ss.Perm (strKeys D0) ∧
   w'.ownsRow (w.alloc (.cells #[.map (some b)] 274)).heap.size 9 1 v ss.length ((ss.mergeSort (fun x y => decide (x ≤ y))).map encStr) ∧ (v = .slice none 0 0 ↔ ss = []) ∧ Below (w.alloc (.cells #[.map (some b)] 274)).heap.size (w.alloc (.cells #[.map (some b)] 274)) w' := by
 have hbl := hown.lt
 have hseq : SeqGives Fence.wide 2 Tryz.prog 388 #[.pointer (some ⟨w.heap.size, 0, none⟩)] encStr (fun ss => ss.Perm (strKeys D0)) (Maps.size D0) (w.alloc (.cells #[.map (some b)] 274)) :=
  AnyZ.keys_gives (ρ := laysKeys_ren) { laysKeys with } Fence.wide _ trivial rfl (by omega) w.heap.size b nn D0 _ (by simp) (by simp) (by
   obtain ⟨es, clock, hb, Ft, hs, hD⟩ := hown
   exact ⟨es, clock, (Below.heap_alloc _ _ b hbl).trans hb, Ft, hs, hD⟩)
 exact AnyZ.sorted_in laysSorted Fence.wide 5 trivial trivial trivial trivial rfl (by omega) (sortsStr _) (enters_of Tryz.func387 (by kernel_rfl) rfl) 388 #[.pointer (some ⟨w.heap.size, 0, none⟩)] trivial (enters_of Tryz.func388 (by kernel_rfl) rfl) _ _ hmax hbytes _ hseq
end Go.Proofs.YtlggichakafkiaaGreat
namespace Go.Proofs.YtlggichakafkiaaGreat
open Go.BigFrame Go.RowKit Go.Maps Go.ChangeMaps Go.Sort Go.Proofs.FuMem Go.Proofs.FuTop
set_option maxRecDepth 100000
theorem before_le : ∀ {a b : List UInt8}, bytesBefore a b = true → a < b
 | [], _ :: _, _ => List.nil_lt_cons _ _
 | [], [], h => by simp [bytesBefore] at h
 | _ :: _, [], h => by simp [bytesBefore] at h
 | x :: r, y :: s, h => by
  unfold bytesBefore at h
  rw [Bool.or_eq_true, Bool.and_eq_true] at h
  rcases h with h | h
  ·exact List.Lex.rel (by simpa using h)
  ·have e : x = y := by simpa using h.1
   subst e
   exact List.Lex.cons (before_le h.2)
theorem less_before : ∀ a b : List UInt8, Op.bytesLess a b = bytesBefore a b
 | [], [] => rfl
 | [], _ :: _ => rfl
 | _ :: _, [] => rfl
 | x :: r, y :: s => by
  unfold Op.bytesLess bytesBefore
  rw [less_before r s]
theorem gtr_before (a b : List UInt8) : (!Op.bytesLess a b && !(a == b)) = bytesBefore b a := by
 rw [less_before]
 by_cases e : a = b
 ·subst e
  simp [WideAt.bytes_irrefl]
 ·rcases WideAt.bytes_total a b e with h | h
  ·rw [h]
   cases h2 : bytesBefore b a with
   | false => rfl
   | true =>
    have := WideShapes.bytes_trans a b a h h2
    rw [WideAt.bytes_irrefl] at this
    cases this
  ·rw [h]
   cases h2 : bytesBefore a b with
   | true =>
    have := WideShapes.bytes_trans a b a h2 h
    rw [WideAt.bytes_irrefl] at this
    cases this
   | false => simp [e]
theorem getL_mem {x : Link} : ∀ {T : List Link}, Rising T → x ∈ T → getL T x.key = x
 | [], _, h => by cases h
 | y :: r, hr, h => by
  unfold getL
  rw [List.find?_cons]
  by_cases e : y.key = x.key
  ·rw [decide_eq_true e]
   rcases List.mem_cons.1 h with h | h
   ·rw [h]; rfl
   ·have := List.rel_of_pairwise_cons hr h
    rw [e, WideAt.bytes_irrefl] at this
    cases this
  ·rw [decide_eq_false e]
   rcases List.mem_cons.1 h with h | h
   ·rw [h] at e
    exact absurd rfl e
   ·exact getL_mem (List.Pairwise.of_cons hr) h
theorem MapAt.key_len {w : World} {b : Nat} {T : List Link} (h : MapAt w b T) {x : Link} (hx : x ∈ T) : x.key.length ≤ maxLen := by
 obtain ⟨es, he, hk⟩ := World.ownsMap.keysOf h
 have hm : (Lit.string x.key, DataW.held x) ∈ es := by
  have e : entriesOf T = es := by injection he
  rw [← e]
  exact List.mem_map.2 ⟨x, hx, rfl⟩
 obtain ⟨v, hv⟩ := hk _ hm
 obtain ⟨y, _, e, hl⟩ := Maps.keyOf_str Tryz.underlying9 hv
 injection e with e
 rw [e]
 exact hl
theorem strKeys_entries (T : List Link) : strKeys (.map (entriesOf T)) = T.map (·.key) := by
 show (T.map fun l => (Lit.string l.key, DataW.held l)).map (fun p => strOf p.1) = _
 rw [List.map_map]
 rfl
theorem keys_sorted {T : List Link} (h : Rising T) {ss : List (List UInt8)} (hp : ss.Perm (T.map (·.key))) : ss.mergeSort (fun x y => decide (x ≤ y)) = T.map (·.key) := by
 rw [mergeSort_of_perm hp]
 refine List.mergeSort_of_pairwise ?_
 refine List.pairwise_map.2 (h.imp fun {a b} hb => ?_)
 simp only [leB, decide_eq_true_eq]
 exact Std.le_of_lt (before_le hb)
theorem find_first {p : Link → Bool} {x : Link} : ∀ {T : List Link} {k : Nat}, (∀ l ∈ T.take k, p l = false) → T[k]? = some x → p x = true → T.find? p = some x
 | [], _, _, h, _ => by simp at h
 | y :: r, 0, _, h, hp => by
  have : y = x := by simpa using h
  subst this
  rw [List.find?_cons, hp]
 | y :: r, k + 1, hn, h, hp => by
  rw [List.find?_cons, hn y (by simp)]
  exact find_first (k := k) (fun l hl => hn l (List.mem_cons_of_mem _ hl)) (by simpa using h) hp
theorem keys_flat : ∀ T : List Link, (T.map fun l => [encStr l.key]).flatten = (T.map (·.key)).map encStr
 | [] => rfl
 | a :: r => congrArg (encStr a.key :: ·) (keys_flat r)
def nextOf (T : List Link) (b : Nat) (pos : List UInt8) (past : Bool) : Option Link := (T.filter fun l => bk l.key == b).find? fun l => !past || bytesBefore pos l.key
theorem size_entries (T : List Link) : Maps.size (DataW.map (entriesOf T)) = T.length := by
 show (entriesOf T).length = _
 unfold entriesOf
 rw [List.length_map]
set_option maxHeartbeats 1000000 in
theorem tab_Next (g : Nat) (bs : List Nat) (T : List Link) (b : Nat) (pos : List UInt8) (past : Bool) (w : World) (h : TabAt w g bs T) (hb : b < 8) (hn : T.length ≤ 100000) (hs : pos.length ≤ maxLen) :
  Calls Tryz.prog 312 #[.pointer (some ⟨g, 0, none⟩), .int .i64 b, .string ⟨pos.toArray⟩, .bool past] w fun e w' => e = .returned (.tuple #[linkV ((nextOf T b pos past).getD noLink), .bool (nextOf T b pos past).isSome]) ∧ Only [] w w' := by
 obtain ⟨mb, hmb⟩ : ∃ m, bs[b]? = some m := ⟨_, List.getElem?_eq_getElem (by rw [h.n8]; exact hb)⟩
 have H := hq9 h
 have hm := h.each b mb hmb
 have hr := rising_filter h.rise fun l => bk l.key == b
 have hl := List.length_filter_le (fun l : Link => bk l.key == b) T
 obtain ⟨Tb, hTb⟩ : ∃ Tb, Tb = T.filter fun l => bk l.key == b := ⟨_, rfl⟩
 have hx : nextOf T b pos past = Tb.find? fun l => !past || bytesBefore pos l.key := by rw [hTb]; rfl
 rw [hx]
 rw [← hTb] at hm hr hl
 have HM := hq9 hm
 have HRI := hq9 hr
 have cb : ∀ o, (w.alloc o).cell? ⟨g, b, none⟩ = some (.map (some mb)) := fun o => by
  rw [(h.head.only ((Only.refl [] w).alloc o) (by simp)).cell]
  simp [hmb]
 have hidx := run_index_map bs b mb hmb h.n8
 have HB := hq9 (Blk.new w 70 #[.string ⟨#[]⟩, .int .u64 0, .int .u64 0, .int .i64 0, .int .i64 0])
 have OA := hq9 ((Only.refl [] w).alloc (.cells #[.string ⟨#[]⟩, .int .u64 0, .int .u64 0, .int .i64 0, .int .i64 0] 70))
 clear h hTb hx hm hr
 have q1 : decide ((b : Int) < 0) = false := by go_num
 have q2 : decide ((b : Int) ≥ 8) = false := by go_num
 go_enter Tryz.func312, Tryz.ntmps312
 go_wp2_with fail
 generalize (w.alloc (.cells #[.string ⟨#[]⟩, .int .u64 0, .int .u64 0, .int .i64 0, .int .i64 0] 70)) = W1 at *
 have M1 := hq9 (HM.out.only OA.out (by simp))
 have hg1 := HB.out.lt
 refine (callsIn_wide.1 (keys_of_map (some mb) W1)).mono ?_
 rintro e W2 ⟨rfl, hW2⟩
 have HC := hq9 (callsIn_wide.1 (sorted_keys mb _ _ _ W1 M1.out (by rw [size_entries]; unfold maxLen; omega) (by rw [size_entries]; omega)))
 rw [← hW2] at HC
 have O2 := hq9 (show Only [] W1 W2 by rw [hW2]; exact (Only.refl _ _).alloc _)
 clear hW2
 go_wp2_with fail
 refine HC.out.mono ?_
 rintro e W3 ⟨v, ss, rfl, hp, hrow, _, hbl⟩
 rw [keys_sorted HRI.out (by rw [strKeys_entries] at hp; exact hp)] at hrow
 have hR : RowS 9 1 W3 v (Tb.map fun l => [encStr l.key]) := ⟨by
  have e := keys_flat Tb
  have e2 : ss.length = (Tb.map fun l => [encStr l.key]).length := by
   rw [strKeys_entries] at hp
   rw [hp.length_eq]
   simp
  rw [e, ← e2]
  exact ownsRow_base_a hrow (Nat.zero_le _), fun x hx => by
  obtain ⟨l, _, rfl⟩ := List.mem_map.1 hx
  rfl⟩
 obtain ⟨m, hm⟩ : ∃ m, m = (Tb.map fun l => [encStr l.key]).length := ⟨_, rfl⟩
 obtain ⟨A, c, rfl, hc, _⟩ := hR.slice
 rw [← hm] at hR
 have hmT : m = Tb.length := by rw [hm, List.length_map]
 have HR := hq9 hR
 have O3 := hq9 ((OA.out.trans0 O2.out).trans0 (Only.of_below hbl))
 have B3 := hq9 (HB.out.only (O2.out.trans0 (Only.of_below hbl)) (by simp))
 have M3 := hq9 (HM.out.only O3.out (by simp))
 rw [← hm]
 have HMT := hq9 hmT
 clear hR hrow hp hbl hm hmT hc
 go_wp2_with fail
 go_loopw [34] (fun i wr => ∃ k : Nat, k ≤ m ∧ i = .int .i64 k ∧ wr = W3 ∧ ∀ l ∈ Tb.take k, (!past || bytesBefore pos l.key) = false) (fun i _ => m - (intOf i).toNat)
 case atStart => exact ⟨0, by omega, rfl, rfl, fun l hl => by simp at hl⟩
 case round =>
  obtain ⟨k, hk, rfl, rfl, hno⟩ := hrel
  have HNO := hq9 hno
  clear hno
  by_cases hlt : k < m
  ·have q3 : decide ((k : Int) < (m : Int)) = true := by go_num
   have hkT : k < Tb.length := by have := HMT.out; omega
   obtain ⟨gb, rfl, hcell⟩ := HR.out.cell (i := k) (by rw [List.length_map]; exact hkT)
   have HX := hq9 (show Tb[k]? = some Tb[k] from List.getElem?_eq_getElem hkT)
   have e0 := hcell 0 (by omega)
   rw [List.getElem_map] at e0
   generalize Tb[k] = x at *
   rw [Nat.mul_one, Nat.add_zero] at e0
   have e1 : wr.cell? ⟨gb, k, none⟩ = some (.string ⟨x.key.toArray⟩) := e0
   clear e0 hcell
   have hkz : (0 : Int) ≤ (k : Int) := by omega
   have hkm2 : (k : Int) < (m : Int) := by omega
   have hlook := M3.out.look ⟨x.key.toArray⟩ (by show x.key.toArray.size ≤ _; simpa using M3.out.key_len (List.mem_of_getElem? HX.out))
   rw [show (ByteArray.mk x.key.toArray).data.toList = x.key by simp, getL_mem HRI.out (List.mem_of_getElem? HX.out)] at hlook
   have FIN := hq9 (show ∀ w3, Blk w3 w.heap.size 70 (linkC x).toArray → Only [] wr w3 → Only [] w w3 from fun w3 _ o => O3.out.trans0 o)
   rw [show linkV x = .agg #[.string ⟨x.key.toArray⟩, .int .u64 x.id, .int .u64 x.ver, .int .i64 x.line, .int .i64 x.cls] from rfl] at hlook
   have hcase : (past = false ∨ past = true ∧ Op.bytesLess x.key pos = false ∧ (x.key == pos) = false) ∨ (past = true ∧ Op.bytesLess x.key pos = false ∧ (x.key == pos) = true) ∨ (past = true ∧ Op.bytesLess x.key pos = true) := by
    cases past <;> cases Op.bytesLess x.key pos <;> cases x.key == pos <;> simp
   have hg := gtr_before x.key pos
   rcases hcase with hyes | hno
   ·have hx : Tb.find? (fun l => !past || bytesBefore pos l.key) = some x := by
     refine find_first HNO.out HX.out ?_
     rw [← hg]
     rcases hyes with h | ⟨_, h1, h2⟩
     ·rw [h]; rfl
     ·rw [h1, h2]; cases past <;> rfl
    have HXX := hq9 hx
    clear hx hg
    rcases hyes with rfl | ⟨rfl, hq1, hq2⟩
    ·go_wp2_with ((with_reducible show wpList _ _ _ (Oper.mk none _ _ _ _ _ :: _) _ _); refine wpList_store_all rfl 70 (.tmp 8) (.tmp 47) rfl w.heap.size (linkC x).toArray rfl rfl _ _ B3.out rfl linkSize (link_one x) ?_; intro w3 hb3 ho3; have B4 := hq9 hb3; have O4 := hq9 (O3.out.trans ho3 (by simp)); clear hb3 ho3)
     refine bodyPost_ret (link_end rfl B4.out rfl rfl) rfl ⟨by rw [HXX.out]; rfl, O4.out⟩
    ·go_wp2_with ((with_reducible show wpList _ _ _ (Oper.mk none _ _ _ _ _ :: _) _ _); refine wpList_store_all rfl 70 (.tmp 8) (.tmp 47) rfl w.heap.size (linkC x).toArray rfl rfl _ _ B3.out rfl linkSize (link_one x) ?_; intro w3 hb3 ho3; have B4 := hq9 hb3; have O4 := hq9 (O3.out.trans ho3 (by simp)); clear hb3 ho3)
     refine bodyPost_ret (link_end rfl B4.out rfl rfl) rfl ⟨by rw [HXX.out]; rfl, O4.out⟩
   ·have hx : (!past || bytesBefore pos x.key) = false := by
     rw [← hg]
     rcases hno with ⟨h, h1, h2⟩ | ⟨h, h1⟩
     ·rw [h, h1, h2]; rfl
     ·rw [h, h1]; rfl
    have HXX := hq9 hx
    clear hx hg
    have NEXT := hq9 (show ∀ l ∈ Tb.take (k + 1), (!past || bytesBefore pos l.key) = false from fun l hl => by
     rw [List.take_add_one, HX.out] at hl
     rcases List.mem_append.1 hl with hl | hl
     ·exact HNO.out l hl
     ·have : l = x := by simpa using hl
      rw [this]
      exact HXX.out)
    rcases hno with ⟨rfl, hq1, hq2⟩ | ⟨rfl, hq1⟩
    ·go_wp2_with fail
     go_roundw
     case rel => exact ⟨k + 1, by omega, by go_num, trivial, NEXT.out⟩
     case measure => simp [intOf]; omega
    ·go_wp2_with fail
     go_roundw
     case rel => exact ⟨k + 1, by omega, by go_num, trivial, NEXT.out⟩
     case measure => simp [intOf]; omega
  ·have q3 : decide ((k : Int) < (m : Int)) = false := by go_num
   have ek : k = Tb.length := by have := HMT.out; omega
   have hx : Tb.find? (fun l => !past || bytesBefore pos l.key) = none := by
    rw [List.find?_eq_none]
    intro l hl
    have := HNO.out l (by rw [ek, List.take_length]; exact hl)
    rw [this]
    simp
   have HXX := hq9 hx
   clear hx
   go_wp2_with ((with_reducible show wpList _ _ _ (Oper.mk none _ _ _ _ _ :: _) _ _); refine wpList_store_all rfl 70 (.tmp 8) (.tmp 49) rfl w.heap.size (linkC noLink).toArray rfl rfl _ _ B3.out rfl linkSize (link_one noLink) ?_; intro w3 hb3 ho3; have B4 := hq9 hb3; have O4 := hq9 (O3.out.trans ho3 (by simp)); clear hb3 ho3)
   refine bodyPost_ret (link_end rfl B4.out rfl rfl) rfl ⟨by rw [HXX.out]; rfl, O4.out⟩
end Go.Proofs.YtlggichakafkiaaGreat
namespace Go.Proofs.FuMem
open Go.RowKit
section
variable {P : Program}
theorem run_copy_k (w : World) (dT sT ty elem : TypeId) (k g o dLen dCap : Nat) (a : Addr) (sLen sCap : Nat) (cur : Array Value) (t : TypeId) (cs : List Value)
  (hu : P.underlying dT = some (.slice elem)) (hs : (P.info? elem).map (·.size) = some k) (hg : Blk w g t cur) (n : Nat) (hn : n = Nat.min sLen dLen) (hl : cs.length = n * k)
  (hsrc : ∀ j v, cs[j]? = some v → w.cell? (a.add j) = some v) (hfit : o + cs.length ≤ cur.size) (h1 : ∀ v ∈ cs, v.oneCell' = true) :
  (Builtin.copy_ #[dT, sT] ty #[.slice (some ⟨g, o, none⟩) dLen dCap, .slice (some a) sLen sCap]).run P w = .ok (goInt n) (w.setRow g (splice cur o cs)) := by
 have hl' := run_loadCells_list (P := P) w a cs hsrc
 have hst := run_storeCells_at P g o t cs 0 cur w hg (by simpa using hfit) h1
 rw [Nat.add_zero] at hst
 cases hq : P.info? elem with
 | none => simp [hq] at hs
 | some i =>
  have hi : i.size = k := by simpa [hq] using hs
  subst hi
  rw [hl] at hl'
  simp [Builtin.copy_, run_underlying hu, Builtin.lenOf, Builtin.firstCells, sizeOf, typeInfo, hq, ← hn, hl', hst, splice]
theorem wp_copy_run {w : World} {o : Oper} {a : Act} {K : Act → World → Prop} {Q : Exit → Act → World → Prop} (d s : Operand) (t t' : TypeId)
  (ho : o.op = .call { callee := .builtin .copy, args := #[d, s], argTypes := #[t, t'] }) (v u : Value) (hd : a.eval d = v) (hs : a.eval s = u) (v' : Value) (w' : World)
  (hr : (Builtin.copy_ #[t, t'] o.type #[v, u]).run P w = .ok v' w') (h : K (a.put o.dst v') w') : o.wp P a w K Q := by
 unfold Oper.wp execOp
 simp only [ho, resolve, invoke, builtin, Sem.run_bind, Sem.run_pure, Result.andThen_ok, List.map_toArray, List.map_cons, List.map_nil, hd, hs, hr]
 exact h
theorem wpList_copy_run {w : World} {ops : Array Oper} {rest : List Oper} {o : Oper} {a : Act} {Q : Exit → Act → World → Prop} (hgd : o.guard = none) (d s : Operand) (t t' : TypeId)
  (ho : o.op = .call { callee := .builtin .copy, args := #[d, s], argTypes := #[t, t'] }) (v u : Value) (hd : a.eval d = v) (hs : a.eval s = u) (v' : Value) (w' : World)
  (hr : (Builtin.copy_ #[t, t'] o.type #[v, u]).run P w = .ok v' w') (h : wpList P ops Q rest (a.put o.dst v') w') : wpList P ops Q (o :: rest) a w :=
 wpList_plain hgd fun _ hK => wp_copy_run d s t t' ho v u hd hs v' w' hr (hK _ _ h)
theorem wpList_append_run2 {w : World} {ops : Array Oper} {rest : List Oper} {o : Oper} {a : Act} {Q : Exit → Act → World → Prop} (hgd : o.guard = none) (s x : Operand) (t t' : TypeId)
  (ho : o.op = .call { callee := .builtin .append, args := #[s, x], argTypes := #[t, t'] }) (v u : Value) (hs : a.eval s = v) (hx : a.eval x = u) (v' : Value) (w' : World)
  (hrun : (Builtin.append_ #[t, t'] o.type #[v, u]).run P w = .ok v' w') (h : wpList P ops Q rest (a.put o.dst v') w') : wpList P ops Q (o :: rest) a w :=
 wpList_plain hgd fun _ hK => by
  unfold Oper.wp execOp
  simp only [ho, resolve, invoke, builtin, Sem.run_bind, Sem.run_pure, Result.andThen_ok, List.map_toArray, List.map_cons, List.map_nil, hs, hx, hrun]
  exact hK _ _ h
theorem run_slice_from {t e : TypeId} (ht : P.underlying t = some (.slice e)) {i : TypeInfo} (hi : P.info? e = some i) (g f n c l : Nat) (hl : l ≤ n) (hc : l < c) (w : World) :
  (Instr.slice t (.slice (some ⟨g, f, none⟩) n c) (some (.int .i64 l)) none none).run P w = .ok (.slice (some ⟨g, f + l * i.size, none⟩) (n - l) (c - l)) w := by
 have h1 : (0 : Int) ≤ (l : Int) := by omega
 have h4 : ¬ (c = l) := by omega
 have h6 : (if l * i.size = 0 then (⟨g, f, none⟩ : Addr) else ⟨g, f + l * i.size, none⟩) = ⟨g, f + l * i.size, none⟩ := by
  split
  ·rename_i h; rw [h]; rfl
  ·rfl
 simp [Instr.slice, Instr.sliceBounds, Instr.sliceBound, asIntOf, run_underlying ht, sizeOf, typeInfo, hi, h1, h4, hl, Addr.add, h6]
theorem run_slice_to {t e : TypeId} (ht : P.underlying t = some (.slice e)) {i : TypeInfo} (hi : P.info? e = some i) (A : Option Addr) (n c h : Nat) (hc : h ≤ c) (w : World) :
  (Instr.slice t (.slice A n c) none (some (.int .i64 h)) none).run P w = .ok (.slice A h c) w := by
 have h1 : (0 : Int) ≤ (h : Int) := by omega
 have h5 : ¬ (c < h) := by omega
 have h0 := map_add0 A i.size
 rw [Nat.zero_mul] at h0
 simp [Instr.slice, Instr.sliceBounds, Instr.sliceBound, asIntOf, run_underlying ht, sizeOf, typeInfo, hi, h1, h0, h5, hc]
theorem run_overlaps_blk {w : World} (tS tR e : TypeId) (ht : P.underlying tS = some (.slice e)) (size : Nat) (hz : ∀ w, (Go.sizeOf e).run P w = .ok size w) {va vb : Nat} {ta tb : TypeId} {ca cb : Array Value}
  (ha : Blk w va ta ca) (hb : Blk w vb tb cb) (hne : va ≠ vb) (hcb : cb.size ≠ 0) (off la xa lb xb : Nat) :
  (Extern.SlicesOverlaps.overlaps #[tS, tS] #[tR] #[.slice (some ⟨va, 0, none⟩) la xa, .slice (some ⟨vb, off, none⟩) lb xb]).run P w = .ok (.bool false) w :=
 Lib.run_overlaps_apart w tS tR e ht size hz ⟨va, 0, none⟩ ⟨vb, off, none⟩ la xa lb xb hne ta tb ca.size cb.size (by
  show w.shape? va = _
  unfold World.shape?
  rw [show w.heap[va]? = _ from ha]) (by
  show w.shape? vb = _
  unfold World.shape?
  rw [show w.heap[vb]? = _ from hb]) hcb (ha.frozen 0) (ha.frozen _)
end
end Go.Proofs.FuMem
namespace Go.Proofs.YtlggichakafkiaaGreat
open Go.BigFrame Go.RowKit Go.Proofs.FuMem Go.Proofs.FuTop
set_option maxRecDepth 100000
theorem run_slice_some {t e : TypeId} (ht : Tryz.prog.underlying t = some (.slice e)) {i : TypeInfo} (hi : Tryz.prog.info? e = some i) (A : Option Addr) (n c l : Nat) (hl : l ≤ n) :
  ∃ v, ∀ w, (Instr.slice t (.slice A n c) (some (.int .i64 l)) none none).run Tryz.prog w = .ok v w := by
 have h1 : (0 : Int) ≤ (l : Int) := by omega
 refine ⟨.slice (if c = l then A else A.map (·.add (l * i.size))) (n - l) (c - l), fun w => ?_⟩
 simp [Instr.slice, Instr.sliceBounds, Instr.sliceBound, asIntOf, run_underlying ht, sizeOf, typeInfo, hi, h1, hl]
set_option maxHeartbeats 1000000 in
theorem link_insert_end (v : Value) (L : List Link) (x : Link) (vb : Nat) (w : World) (h : RowS 70 5 w v (L.map linkC)) (hx : Blk w vb 70 (linkC x).toArray) (hn : L.length ≤ 100000) :
  Calls Tryz.prog 298 #[v, .int .i64 L.length, .slice (some ⟨vb, 0, none⟩) 1 1] w fun e w' => ∃ v', e = .returned v' ∧ RowS 70 5 w' v' ((L ++ [x]).map linkC) ∧ Only v.ownBlock.toList w w' ∧ (v'.ownBlock = v.ownBlock ∨ v'.ownBlock = some w.heap.size) := by
 obtain ⟨A, c, rfl, hc, hcm⟩ := h.slice
 obtain ⟨m, hm⟩ : ∃ m, m = (L.map linkC).length := ⟨_, rfl⟩
 have hml : m = L.length := by rw [hm, List.length_map]
 rw [← hm] at h ⊢
 rw [← hml] at hn ⊢
 obtain ⟨i, z, hi, hz, hs, hzs, hb⟩ := linkInfo
 obtain ⟨v12, h12⟩ := run_slice_some Tryz.underlying216 hi A m c m (Nat.le_refl _)
 obtain ⟨v', w', hr, h2, h3, h4⟩ := push_link h (by rw [← hml]; omega) (A := some ⟨vb, 0, none⟩) (x := x) (Sl.of_blk (xs := linkC x) (n := 5) hx 0 rfl (by simp [linkC]))
 have H2 := hq9 h2
 have H3 := hq9 h3
 have H4 := hq9 h4
 have hr' : (Builtin.append_ #[216, 216] 216 #[.slice A m c, .slice (some ⟨vb, 0, none⟩) 1 1]).run Tryz.prog w = .ok v' w' := by
  rw [hm]; rw [hm] at hr; exact hr
 clear h hx hm hml hi hz hs hzs hb h2 h3 h4 hr
 go_enter Tryz.func298, Tryz.ntmps298
 go_wp2_with (at_builtin; refine wpList_append_run _ rfl (.tmp 23) (.tmp 24) 216 rfl _ _ rfl rfl _ _ hr' ?_)
 go_ret
 exact ⟨v', rfl, H2.out, H3.out, H4.out⟩
theorem take_at {A B : List Value} {n : Nat} (h : A.length = n) : (A ++ B).take n = A := by subst h; simp
theorem drop_at {A B : List Value} {n : Nat} (h : A.length = n) : (A ++ B).drop n = B := by subst h; simp
theorem splice_in {C F X : List Value} {N k i5 : Nat} (hF : C.take N = F) (hk : X.length = k) (hi : i5 ≤ N) (hC : N + k ≤ C.length) :
  (FuMem.splice (FuMem.splice C.toArray (i5 + k) (F.drop i5)) i5 X).toList.take (N + k) = F.take i5 ++ X ++ F.drop i5 := by
 have hA : (C.take (i5 + k)) = F.take i5 ++ (C.drop i5).take k := by rw [List.take_add, ← hF, List.take_take, Nat.min_eq_left hi]
 have hFl : F.length = N := by rw [← hF, List.length_take]; omega
 have hl1 : (F.take i5).length = i5 := by rw [List.length_take]; omega
 have hl2 : ((C.drop i5).take k).length = k := by rw [List.length_take, List.length_drop]; omega
 have hl3 : (F.drop i5).length = N - i5 := by rw [List.length_drop, hFl]
 obtain ⟨T, hT⟩ : ∃ T, T = C.drop (i5 + k + (F.drop i5).length) := ⟨_, rfl⟩
 have e1 : (FuMem.splice C.toArray (i5 + k) (F.drop i5)).toList = F.take i5 ++ ((C.drop i5).take k ++ (F.drop i5 ++ T)) := by
  unfold FuMem.splice
  rw [List.toList_toArray, ← hT, hA]
  simp only [List.append_assoc]
 have e2 : (FuMem.splice (FuMem.splice C.toArray (i5 + k) (F.drop i5)) i5 X).toList = (F.take i5 ++ X ++ F.drop i5) ++ T := by
  rw [FuMem.splice, List.toList_toArray, e1, take_at hl1, hk, ← List.append_assoc (F.take i5) ((C.drop i5).take k), drop_at (by rw [List.length_append, hl1, hl2])]
  simp only [List.append_assoc]
 rw [e2]
 exact take_at (by rw [List.length_append, List.length_append, hl1, hk, hl3]; omega)
theorem splice_new {R F X : List Value} {N k i5 : Nat} (hF : F.length = N) (hR : R.take i5 = F.take i5) (hk : X.length = k) (hi : i5 ≤ N) (hC : N + k ≤ R.length) :
  (FuMem.splice (FuMem.splice R.toArray i5 X) (i5 + k) (F.drop i5)).toList.take (N + k) = F.take i5 ++ X ++ F.drop i5 := by
 have hl1 : (F.take i5).length = i5 := by rw [List.length_take]; omega
 have hl3 : (F.drop i5).length = N - i5 := by rw [List.length_drop, hF]
 have e1 : (FuMem.splice R.toArray i5 X).toList = (F.take i5 ++ X) ++ R.drop (i5 + X.length) := by
  unfold FuMem.splice
  rw [List.toList_toArray, ← hR]
 have hl4 : (F.take i5 ++ X).length = i5 + k := by rw [List.length_append, hl1, hk]
 rw [FuMem.splice, List.toList_toArray, e1, take_at hl4]
 exact take_at (by rw [List.length_append, hl4, hl3]; omega)
theorem flat_in (L : List Link) (x : Link) (i : Nat) : ((L.take i ++ x :: L.drop i).map linkC).flatten = ((L.map linkC).flatten).take (i * 5) ++ linkC x ++ ((L.map linkC).flatten).drop (i * 5) := by
 have ht : ∀ (L : List Link) (i : Nat), ((L.map linkC).flatten).take (i * 5) = ((L.take i).map linkC).flatten ∧ ((L.map linkC).flatten).drop (i * 5) = ((L.drop i).map linkC).flatten := by
  intro L
  induction L with
  | nil => intro i; simp
  | cons y r ih =>
   intro i
   cases i with
   | zero => simp
   | succ i =>
    have e : (i + 1) * 5 = (linkC y).length + i * 5 := by show _ = 5 + i * 5; omega
    obtain ⟨h1, h2⟩ := ih i
    rw [e, List.map_cons, List.flatten_cons, List.take_length_add_append, List.drop_length_add_append, h1, h2]
    simp
 rw [(ht L i).1, (ht L i).2]
 simp
end Go.Proofs.YtlggichakafkiaaGreat
namespace Go.Proofs.YtlggichakafkiaaGreat
open Go.BigFrame Go.RowKit Go.Proofs.FuMem Go.Proofs.FuTop
set_option maxRecDepth 100000
theorem link_size (w : World) : (Go.sizeOf 70).run Tryz.prog w = .ok 5 w := Tryz.sizeOf70 w
set_option maxHeartbeats 2000000 in
theorem link_insert_room (b : Nat) (L : List Link) (x : Link) (i c vb : Nat) (w : World) (h : RowS 70 5 w (.slice (some ⟨b, 0, none⟩) L.length c) (L.map linkC)) (hx : Blk w vb 70 (linkC x).toArray) (hi : i < L.length) (hroom : L.length + 1 ≤ c) (hne : vb ≠ b) :
  Calls Tryz.prog 298 #[.slice (some ⟨b, 0, none⟩) L.length c, .int .i64 i, .slice (some ⟨vb, 0, none⟩) 1 1] w fun e w' => ∃ c, e = .returned (.slice (some ⟨b, 0, none⟩) (L.length + 1) c) ∧ RowS 70 5 w' (.slice (some ⟨b, 0, none⟩) (L.length + 1) c) ((L.take i ++ x :: L.drop i).map linkC) ∧ Only [b] w w' := by
 obtain ⟨ti, z, hti, hz, hs, hzs, hb⟩ := linkInfo
 have hz5 : (Tryz.prog.info? 70).map (·.size) = some 5 := by rw [hti]; simp [hs]
 obtain ⟨n, hn⟩ : ∃ n, n = L.length := ⟨_, rfl⟩
 obtain ⟨F, hF⟩ : ∃ F, F = (L.map linkC).flatten := ⟨_, rfl⟩
 have hFl : F.length = n * 5 := by rw [hF, flatten_len h.len, List.length_map, hn]
 rcases h.row.2 with ⟨hv, h0⟩ | ⟨g, cap, cur, hv, _, hg, hcc, hcm, hcs, htk⟩
 ·rw [List.length_map] at h0; omega
 obtain ⟨rfl, rfl⟩ : b = g ∧ c = cap := by
  injection hv with h1 h2 h3
  injection h1 with h1
  injection h1 with h1
  exact ⟨h1, h3⟩
 rw [List.length_map, ← hn, ← hF] at htk
 rw [← hn] at hi hroom ⊢
 have hB : Blk w b 70 cur := hg
 have S13 := run_slice_to (P := Tryz.prog) Tryz.underlying216 hti (some ⟨b, 0, none⟩) n c (n + 1) hroom
 have S14 := run_slice_from (P := Tryz.prog) Tryz.underlying216 hti b 0 (n + 1) c (i + 1) (by omega) (by omega)
 have S15 := run_slice_from (P := Tryz.prog) Tryz.underlying216 hti b 0 (n + 1) c i (by omega) (by omega)
 have S12 := run_slice_from (P := Tryz.prog) Tryz.underlying216 hti b 0 n c i (by omega) (by omega)
 rw [hs, Nat.zero_add] at S14 S15 S12
 rw [show ((n + 1 : Nat) : Int) = (n : Int) + 1 by omega] at S13
 rw [show ((i + 1 : Nat) : Int) = (i : Int) + 1 by omega] at S14
 have hov : ∀ w' lb cb o, Blk w' vb 70 (linkC x).toArray → Blk w' b 70 cur → (callFunc 348 #[.slice (some ⟨vb, 0, none⟩) 1 1, .slice (some ⟨b, o, none⟩) lb cb]).run Tryz.prog w' = .ok (.value (.bool false)) w' := fun w' lb cb o ha hb' => by
  rw [run_callFunc_extern Tryz.func348 (by kernel_rfl) (by kernel_rfl) (by kernel_rfl) (e := Extern.SlicesOverlaps.overlaps #[216, 216] #[4]) (by kernel_rfl),
   run_overlaps_blk 216 4 70 Tryz.underlying216 5 link_size ha hb' hne (by omega) o 1 1 lb cb]
  rfl
 have hov0 := fun lb cb o => hov w lb cb o hx hB
 obtain ⟨o1, ho1⟩ : ∃ o, o = (i + 1) * 5 := ⟨_, rfl⟩
 obtain ⟨l1, hl1⟩ : ∃ o, o = n + 1 - (i + 1) := ⟨_, rfl⟩
 obtain ⟨c1, hc1⟩ : ∃ o, o = c - (i + 1) := ⟨_, rfl⟩
 obtain ⟨o0, ho0⟩ : ∃ o, o = i * 5 := ⟨_, rfl⟩
 obtain ⟨l0, hl0⟩ : ∃ o, o = n + 1 - i := ⟨_, rfl⟩
 obtain ⟨c0, hc0⟩ : ∃ o, o = c - i := ⟨_, rfl⟩
 obtain ⟨l2, hl2⟩ : ∃ o, o = n - i := ⟨_, rfl⟩
 obtain ⟨n1, hn1⟩ : ∃ o, o = n + 1 := ⟨_, rfl⟩
 rw [← ho1, ← hl1, ← hc1] at S14
 rw [← ho0, ← hl0, ← hc0] at S15
 rw [← ho0, ← hl2, ← hc0] at S12
 rw [← hn1] at S13 S14 S15 ⊢
 have hw1 : IntKind.i64.wrap ((i : Int) + 1) = (i : Int) + 1 := by rw [IntKind.wrap_i64]; unfold maxLen at hcm; omega
 have hwn : IntKind.i64.wrap ((n : Int) + 1) = (n : Int) + 1 := by rw [IntKind.wrap_i64]; unfold maxLen at hcm; omega
 have q1 : ((i : Int) == (n : Int)) = false := by go_num
 have q2 : decide ((n : Int) + 1 > (c : Int)) = false := by go_num
 have q3 : ¬ ((c : Int) < (n : Int) + 1) := by omega
 have q4 : ¬ ((i : Int) = (n : Int)) := by omega
 have hFd : (F.drop o0).length = (n - i) * 5 := by rw [List.length_drop, hFl, ho0, ← Nat.sub_mul]
 have HC := hq9 (show ∀ wd, Blk wd b 70 cur → ∀ ty, (Builtin.copy_ #[216, 216] ty #[.slice (some ⟨b, o1, none⟩) l1 c1, .slice (some ⟨b, o0, none⟩) l0 c0]).run Tryz.prog wd = .ok (goInt ((n - i : Nat) : Int)) (wd.setRow b (FuMem.splice cur o1 (F.drop o0))) from fun wd hb ty =>
  run_copy_k wd _ _ ty 70 5 b o1 l1 c1 ⟨b, o0, none⟩ l0 c0 cur _ (F.drop o0) Tryz.underlying216 hz5 hb (n - i) (by show n - i = min l0 l1; omega) hFd (fun j v hj => by
   rw [Addr.add_lit, hb.cell]
   rw [List.getElem?_drop, ← htk, List.getElem?_take] at hj
   split at hj
   ·rw [← Array.getElem?_toList]; exact hj
   ·cases hj) (by rw [hFd, ho1, hcs]; omega) (fun v hv => by
   have := List.mem_of_mem_drop hv
   rw [hF] at this
   obtain ⟨y, hy, hvy⟩ := List.mem_flatten.1 this
   obtain ⟨l, _, rfl⟩ := List.mem_map.1 hy
   exact linkC_one l v hvy))
 have HF := hq9 hF
 have HB := hq9 hB
 have HX := hq9 hx
 have HTK := hq9 htk
 have HFL := hq9 hFl
 have HFD := hq9 hFd
 have HA := hq9 (And.intro hcs (And.intro ho0 (And.intro ho1 (And.intro hl0 (And.intro hn1 (And.intro hn (And.intro hl2 hcm)))))))
 have HZ5 := hq9 hz5
 clear h hx hti hz hs hzs hb hF hFl hcc hcm hcs hv hg htk hB hov hz5 ho0 ho1 hl0 hl1 hc0 hc1 hl2 hn1 hn hFd
 go_enter Tryz.func298, Tryz.ntmps298
 go_wp2_with (simp only [hov0])
 refine wp_region_still_tail 8 (by kernel_rfl) (by kernel_rfl) ?_
 simp only [List.take_succ_cons, List.take_zero, List.drop_succ_cons, List.drop_zero]
 generalize hwd : ({ w with drawn := w.drawn + 1 } : World) = wd
 have OD := hq9 (draw_only hwd)
 clear hwd
 have BD := hq9 (HB.out.only OD.out (by simp))
 have XD := hq9 (HX.out.only OD.out (by simp))
 repeat still_step
 refine wpStill_nil ?_
 refine wpList_copy_run rfl (.tmp 73) (.tmp 76) 216 216 rfl _ _ rfl rfl _ _ (HC.out wd BD.out _) ?_
 have B1 := hq9 (BD.out.row (FuMem.splice cur o1 (F.drop o0)))
 have O1 := hq9 (((Only.refl [b] wd).setRow (g := b) (.inl (by simp)) (FuMem.splice cur o1 (F.drop o0))))
 generalize (wd.setRow b (FuMem.splice cur o1 (F.drop o0))) = w1 at *
 have X1 := hq9 (XD.out.only O1.out (by simp [hne]))
 have hr2 : (Builtin.copy_ #[216, 216] 3 #[.slice (some ⟨b, o0, none⟩) l0 c0, .slice (some ⟨vb, 0, none⟩) 1 1]).run Tryz.prog w1 = .ok (goInt ((1 : Nat) : Int)) (w1.setRow b (FuMem.splice (FuMem.splice cur o1 (F.drop o0)) o0 (linkC x))) :=
  run_copy_k w1 _ _ _ 70 5 b o0 l0 c0 ⟨vb, 0, none⟩ 1 1 _ _ (linkC x) Tryz.underlying216 HZ5.out B1.out 1 (by have := HA.out.2.2.2.1; show 1 = min 1 l0; omega) rfl (fun j v hj => by
   rw [Addr.add_lit, X1.out.cell, Nat.zero_add]
   simpa using hj) (by
   have := HA.out
   show _ + 5 ≤ _
   rw [splice_size _ _ _ (by rw [HFD.out]; omega)]
   omega) (linkC_one x)
 have B2 := hq9 (B1.out.row (FuMem.splice (FuMem.splice cur o1 (F.drop o0)) o0 (linkC x)))
 have O2 := hq9 (((Only.refl [b] w1).setRow (g := b) (.inl (by simp)) (FuMem.splice (FuMem.splice cur o1 (F.drop o0)) o0 (linkC x))))
 generalize (w1.setRow b (FuMem.splice (FuMem.splice cur o1 (F.drop o0)) o0 (linkC x))) = w2 at *
 go_wp2_with (at_builtin; refine wpList_copy_run rfl (.tmp 80) (.tmp 81) 216 216 rfl _ _ rfl rfl _ _ hr2 ?_)
 go_ret
 have OO := ((OD.out.mono (T := [b]) (by simp)).trans O1.out (fun b hb => .inl hb)).trans O2.out (fun b hb => .inl hb)
 obtain ⟨hcs, ho0, ho1, hl0, hn1, hn, hl2, hcm⟩ := HA.out
 have hlen : ∀ y ∈ (L.take i ++ x :: L.drop i).map linkC, y.length = 5 := fun y hy => by
  obtain ⟨l, _, rfl⟩ := List.mem_map.1 hy
  rfl
 have hxl : ((L.take i ++ x :: L.drop i).map linkC).length = n1 := by
  rw [List.length_map, List.length_append, List.length_cons, List.length_take, List.length_drop]
  omega
 have hsp := splice_in (C := cur.toList) (F := F) (X := linkC x) (N := n * 5) (k := 5) (i5 := i * 5) HTK.out rfl (by omega) (by rw [Array.length_toList]; omega)
 rw [Array.toArray_toList, show i * 5 + 5 = o1 by omega, ← ho0, show n * 5 + 5 = n1 * 5 by omega] at hsp
 have hfl := flat_in L x i
 rw [← HF.out, ← ho0] at hfl
 rw [← hfl] at hsp
 have hz : (FuMem.splice (FuMem.splice cur o1 (F.drop o0)) o0 (linkC x)).size = c * 5 := by
  rw [splice_size _ _ _ (by rw [splice_size _ _ _ (by rw [HFD.out]; omega)]; show _ + 5 ≤ _; omega), splice_size _ _ _ (by rw [HFD.out]; omega), hcs]
 exact ⟨c, rfl, ⟨⟨flatten_len hlen, .inr ⟨b, c, _, by rw [hxl], Nat.zero_le _, B2.out, by rw [hxl]; omega, hcm, hz, by rw [hxl]; exact hsp⟩⟩, hlen⟩, OO⟩
end Go.Proofs.YtlggichakafkiaaGreat