/- The contracts of palloc: Give, Mark, Of, Room. -/
import Derived.Deep.Slices
import Derived.Deep.Fields
import Derived.Deep.RegionHeld3
import Derived.Laws.IdiomCopy
import Derived.Test.YtlggichakafkiaaGreatProg
import Derived.WalkSpells
import Derived.WalkLawsBesides
import Derived.Laws.LoneSync
import Derived.Deep.RegionWith
import Derived.Deep.QuietTactic
import Derived.BigQuiet
import Derived.Test.YtlggichakafkiaaGreatGTopHostile1
import Derived.Test.YtlggichakafkiaaGreatGTopHostile2
import Derived.Test.YtlggichakafkiaaGreatGTopHostile3
import Derived.Test.YtlggichakafkiaaGreatGTopHostile4
set_option linter.unusedSimpArgs false
set_option linter.unusedVariables false
namespace Go.Proofs.YtlggichakafkiaaGreat
open Go.RowKit Go.Proofs.FuMem Go.Proofs.FuClass Go.Proofs.FuPool
set_option maxRecDepth 100000
theorem pool_Of (g sb : Nat) (P : Pool) (line : Int) (w : World) (h : PoolAt w g sb P) (hP : Ok P) :
  Calls Tryz.prog 392 #[.pointer (some ⟨g, 0, none⟩), .int .i64 line] w fun e w' => e = .returned (.tuple #[.int .i64 (ofA P line).1, .bool (ofA P line).2]) ∧ Only [] w w' := by
 have HA := hq9 (pool_at g sb P line w h hP)
 have H := hq9 h
 have h32 := h.n32
 clear h
 go_enter Tryz.func392, Tryz.ntmps392
 go_wp2_with fail
 refine HA.out.mono ?_
 rintro e w2 ⟨x, y, b, rfl, hat, o2⟩
 have O2 := hq9 o2
 rcases hat with ⟨hn, rfl⟩ | ⟨i, k, hs, rfl, rfl, rfl⟩
 ·have HE := hq9 (show ofA P line = (0, false) by unfold ofA; rw [hn])
  clear hn o2
  go_wp2
  go_ret2
  exact ⟨by rw [HE.out]; rfl, O2.out⟩
 ·obtain ⟨s, hss, _⟩ := blockAt_some h32 hs
  have HE := hq9 (show ofA P line = (s.cls, true) by unfold ofA; rw [hs]; simp [hss])
  have xc : w2.cell? ⟨sb, i * 10, none⟩ = some (.int .i64 s.cls) := (H.out.only0 o2).cls hss
  generalize s.cls = cl at *
  clear hs hss o2
  go_wp2
  go_ret2
  exact ⟨by rw [HE.out]; rfl, O2.out⟩
end Go.Proofs.YtlggichakafkiaaGreat
namespace Go.Proofs.FuPool
open Go.RowKit Go.Proofs.FuMem
def raw : Slab := ⟨0, List.replicate 8 false⟩
def mix (n j : Nat) : Pool := List.replicate j whole ++ List.replicate (n - j) raw
theorem mix_zero (n : Nat) : mix n 0 = List.replicate n raw := by simp [mix]
theorem mix_all (n : Nat) : mix n n = newPool n := by simp [mix, newPool]
theorem mix_length {n j : Nat} (h : j ≤ n) : (mix n j).length = n := by simp [mix]; omega
theorem mix_at {n j : Nat} (h : j < n) : (mix n j)[j]? = some raw := by
 unfold mix
 rw [List.getElem?_append_right (by simp)]
 simp [List.getElem?_replicate]
 omega
theorem mix_turn {n j : Nat} (h : j < n) : (mix n j).modify j (fun s => ⟨-1, s.taken⟩) = mix n (j + 1) := by
 apply List.ext_getElem?
 intro i
 rw [List.getElem?_modify]
 unfold mix
 by_cases hij : j = i
 ·subst hij
  rw [List.getElem?_append_right (by simp), List.getElem?_append_left (by simp)]
  simp [List.getElem?_replicate, raw, whole]
  omega
 ·simp only [if_neg hij]
  by_cases hlt : i < j
  ·rw [List.getElem?_append_left (by simpa using hlt), List.getElem?_append_left (by simp; omega)]
   simp [List.getElem?_replicate, hlt]
   omega
  ·rw [List.getElem?_append_right (by simp; omega), List.getElem?_append_right (by simp; omega)]
   simp only [List.length_replicate, List.getElem?_replicate]
   by_cases h2 : i < n
   ·rw [if_pos (by omega), if_pos (by omega)]
    rfl
   ·rw [if_neg (by omega), if_neg (by omega)]
    rfl
theorem raw_cells : cellsOf raw = [.int .i64 0, .bool false, .bool false, .bool false, .bool false, .bool false, .bool false, .bool false, .bool false, .int .i64 0] := rfl
theorem madeCells_list (c : List Value) (n : Nat) (_hc : 0 < c.length) : madeCells c.toArray (n * c.length) = (List.replicate n c).flatten.toArray := by
 have h : ∀ n, (List.range (n * c.length)).map (fun i => c.toArray[i % c.toArray.size]!) = (List.replicate n c).flatten := by
  intro n
  induction n with
  | zero => simp
  | succ n ih =>
   rw [Nat.succ_mul, List.range_add, List.map_append, ih, List.replicate_succ', List.flatten_append]
   congr 1
   simp only [List.map_map, List.flatten_cons, List.flatten_nil, List.append_nil]
   apply List.ext_getElem
   ·simp
   ·intro i h1 h2
    simp only [List.getElem_map, List.getElem_range, Function.comp, List.size_toArray]
    have e : (n * c.length + i) % c.length = i := by rw [Nat.mul_comm, Nat.mul_add_mod, Nat.mod_eq_of_lt h2]
    rw [e]
    simp [h2]
 unfold madeCells
 rw [← h n]
 apply Array.ext'
 simp
theorem flat_replicate (n : Nat) (x : Slab) : flat (List.replicate n x) = (List.replicate n (cellsOf x)).flatten := by
 unfold flat rows
 rw [List.map_replicate]
section
variable {P : Program} {w : World}
theorem make_slabs (t e : TypeId) (i : TypeInfo) (z : Value) (ht : P.underlying t = some (.slice e)) (hi : P.info? e = some i) (hz : i.zero = some z) (hsize : i.size = 10) (hz1 : z.cells = (cellsOf raw).toArray)
  (n : Nat) (hbytes : i.bytes * n ≤ 281474976710656) (h63 : n ≤ 9223372036854775807) :
  ∃ w', (Instr.makeSlice t (.int .i64 (n : Int)) (.int .i64 (n : Int))).run P w = .ok (.slice (some ⟨w.heap.size, 0, none⟩) n n) w' ∧
   Blk w' w.heap.size e (flat (List.replicate n raw)).toArray ∧ Only [] w w' ∧ w'.heap.size = w.heap.size + 1 := by
 have hb : (i.bytes : Int) * (n : Int) ≤ 281474976710656 := by
  have h : ((i.bytes * n : Nat) : Int) ≤ 281474976710656 := by omega
  rwa [Int.natCast_mul] at h
 have hr := run_make (P := P) w t e i z ht hi hz .i64 .i64 n n (by omega) (by omega) hb (by omega)
 simp only [Int.toNat_natCast] at hr
 have hm := madeCells_list (cellsOf raw) n (by rw [raw_cells]; decide)
 rw [show (cellsOf raw).length = 10 from rfl] at hm
 rw [hsize, hz1, hm, ← flat_replicate] at hr
 exact ⟨_, hr, Blk.new _ _ _, (Only.refl _ _).alloc _, by simp⟩
end
end Go.Proofs.FuPool
namespace Go.Proofs.YtlggichakafkiaaGreat
open Go.RowKit Go.Proofs.FuMem Go.Proofs.FuClass Go.Proofs.FuPool
set_option maxRecDepth 100000
theorem slabZero : ∃ i z, Tryz.prog.info? 305 = some i ∧ i.zero = some z ∧ i.size = 10 ∧ z.cells = (cellsOf raw).toArray ∧ i.bytes = 24 := ⟨_, _, rfl, rfl, rfl, rfl, rfl⟩
theorem geom_Slabs_258 (w : World) : Calls Tryz.prog 93 #[.int .i64 258] w fun e w' => e = .returned (.int .i64 32) ∧ w = w' := by
 go_enter Tryz.func93, Tryz.ntmps93
 go_wp2
 go_ret
 exact ⟨rfl, rfl⟩
set_option maxHeartbeats 800000 in
theorem pool_New (n : Nat) (w : World) (h1 : 1 ≤ n) (h2 : n ≤ 32) :
  Calls Tryz.prog 135 #[.int .i64 n] w fun e w' => ∃ g sb, e = .returned (.tuple #[.pointer (some ⟨g, 0, none⟩), .int .i64 0]) ∧ PoolAt w' g sb (newPool n) ∧ Only [] w w' ∧ w.heap.size ≤ g ∧ w.heap.size ≤ sb := by
 obtain ⟨ci, cz, hi, hz, hs, hc, hby⟩ := slabZero
 obtain ⟨w1, hr, hb, ho, hg⟩ := make_slabs (P := Tryz.prog) (w := w) 301 305 ci cz rfl hi hz hs hc n (by rw [hby]; omega) (by omega)
 have hal : Only [] w1 (w1.alloc (.cells #[.slice (some ⟨w.heap.size, 0, none⟩) n n] 313)) := (Only.refl _ _).alloc _
 have hhd := Blk.new w1 313 #[.slice (some ⟨w.heap.size, 0, none⟩) n n]
 rw [hg] at hhd
 have hip : PoolAt (w1.alloc (.cells #[.slice (some ⟨w.heap.size, 0, none⟩) n n] 313)) (w.heap.size + 1) w.heap.size (mix n 0) := by
  refine ⟨by rw [mix_length (by omega)]; exact hhd, ?_, by omega, by rw [mix_length (by omega)]; exact h1, by rw [mix_length (by omega)]; exact h2, ?_⟩
  ·rw [mix_zero]
   exact hb.only hal (by simp)
  ·intro s hs
   rw [mix_zero] at hs
   rw [(List.mem_replicate.1 hs).2]
   rfl
 have HI := hq9 hip
 have HO := hq9 (ho.trans0 hal)
 have HG := hq9 hg
 have q1 : decide ((n : Int) < 1) = false := by rw [decide_eq_false_iff_not]; omega
 have q2 : decide ((32 : Int) < (n : Int)) = false := by rw [decide_eq_false_iff_not]; omega
 have x0 : (w1.alloc (.cells #[.slice (some ⟨w.heap.size, 0, none⟩) n n] 313)).cell? ⟨w1.heap.size, 0, none⟩ = some (.slice (some ⟨w.heap.size, 0, none⟩) n n) := by
  rw [hg]
  exact hhd.cell 0
 clear hip ho hal hhd hb hi hz hc hg
 go_enter Tryz.func135, Tryz.ntmps135
 go_wp2_with fail
 refine (geom_Slabs_258 _).mono ?_
 rintro e w' ⟨rfl, rfl⟩
 go_wp2
 rw [HG.out]
 generalize w1.alloc (.cells #[.slice (some ⟨w.heap.size, 0, none⟩) n n] 313) = w2 at HI HO ⊢
 go_loopw [5, 22] (fun _ kv wr => ∃ j : Nat, j ≤ n ∧ kv = .int .i64 j ∧ PoolAt wr (w.heap.size + 1) w.heap.size (mix n j) ∧ Only [] w wr) (fun _ kv _ => n - (intOf kv).toNat)
 case atStart => exact ⟨0, by omega, rfl, HI.out, HO.out⟩
 case round =>
  obtain ⟨j, hj, rfl, hp, on⟩ := hrel
  by_cases hlt : j < n
  ·have y1 : (0 : Int) ≤ (j : Int) := by omega
   have y2 : (j : Int) < (n : Int) := by omega
   have y3 : decide ((j : Int) < (n : Int)) = true := by rw [decide_eq_true_eq]; omega
   have z0 : wr.cell? ⟨w.heap.size + 1, 0, none⟩ = some (.slice (some ⟨w.heap.size, 0, none⟩) n n) := by
    have := hp.headCell
    rwa [mix_length (by omega)] at this
   have zc := hp.cls (mix_at hlt)
   have f0 := hp.frozen (j * 10)
   have HT := hq9 (hp.turn1 (mix_at hlt) (o1 := 0) (by omega) (.int .i64 (-1)) (f := fun s => ⟨-1, s.taken⟩) rfl rfl)
   rw [mix_turn hlt, Nat.add_zero] at HT
   have ON := hq9 on
   clear hp on
   go_wp2
   go_roundw
   ·exact ⟨j + 1, by omega, by simp, HT.out.1, ON.out.trans HT.out.2 (by simp)⟩
   ·simp [intOf]
    omega
  ·obtain rfl : j = n := by omega
   have y3 : decide ((j : Int) < (j : Int)) = false := by simp
   rw [mix_all] at hp
   have HP := hq9 hp
   have ON := hq9 on
   clear hp on
   go_wp2
   go_ret2
   exact ⟨_, _, rfl, HP.out, ON.out, by omega, by omega⟩
end Go.Proofs.YtlggichakafkiaaGreat
namespace Go.Proofs.FuMem
open Go.RowKit
end Go.Proofs.FuMem
namespace Go.Proofs.YtlggichakafkiaaGreat
open Go.RowKit Go.Proofs.FuMem Go.Proofs.FuClass Go.Proofs.FuPool
set_option maxRecDepth 100000
set_option maxHeartbeats 800000 in
theorem pool_Mark (g sb : Nat) (P : Pool) (line c : Int) (w : World) (h : PoolAt w g sb P) (_hP : Ok P) (hc : -9223372036854775808 ≤ c ∧ c ≤ 9223372036854775807) :
  Calls Tryz.prog 241 #[.pointer (some ⟨g, 0, none⟩), .int .i64 line, .int .i64 c] w fun e w' => e = .returned (.int .i64 (markA P line c)) ∧ PoolAt w' g sb (markP P line c) ∧ Only [sb] w w' := by
 have HSO := hq9 (fun w => geom_SlabOf line w)
 have HHO := hq9 (fun w => class_Home line c w hc)
 have hb := slabOf_bd line
 have h32 := h.n32
 have HP := hq9 h
 by_cases hh : home line c = true
 case neg =>
  have hh2 : home line c = false := by simpa using hh
  have HE := hq9 (show markA P line c = 1 from if_pos (.inl hh2))
  have HN := hq9 (show markP P line c = P by unfold markP; rw [HE.out]; rfl)
  rw [hh2] at HHO
  clear h hh hh2
  generalize slabOf line = i at *
  go_enter Tryz.func241, Tryz.ntmps241
  go_wp2_with fail
  refine (HSO.out _).mono ?_
  rintro e w' ⟨rfl, rfl⟩
  go_wp2_with fail
  refine (HHO.out _).mono ?_
  rintro e w2 ⟨rfl, o2⟩
  have O2 := hq9 o2
  clear o2
  go_wp2
  go_ret
  exact ⟨by rw [HE.out]; rfl, by rw [HN.out]; exact HP.out.only0 O2.out, O2.out.mono (by simp)⟩
 obtain ⟨i, k, hi, e1, hk, hl, c0, c3, e2⟩ := home_some hh
 rw [hh] at HHO
 rw [e1] at HSO
 have HA := hq9 (fun w (h : PoolAt w g sb P) => pool_all g sb P w h)
 have y1 : (0 : Int) ≤ (i : Int) := by omega
 by_cases hlt : i < P.length
 case neg =>
  have HE := hq9 (show markA P line c = 1 from if_pos (.inr (by omega)))
  have HN := hq9 (show markP P line c = P by unfold markP; rw [HE.out]; rfl)
  have q1 : decide ((P.length : Int) ≤ (i : Int)) = true := by rw [decide_eq_true_eq]; omega
  clear h hh hl e1 e2 hk
  go_enter Tryz.func241, Tryz.ntmps241
  go_wp2_with fail
  refine (HSO.out _).mono ?_
  rintro e w' ⟨rfl, rfl⟩
  go_wp2_with fail
  refine (HHO.out _).mono ?_
  rintro e w2 ⟨rfl, o2⟩
  have O2 := hq9 o2
  have P2 := hq9 (HP.out.only0 o2)
  clear o2
  go_wp2_with fail
  refine (HA.out _ P2.out).mono ?_
  rintro e w' ⟨rfl, rfl⟩
  generalize P.length = n at *
  go_wp2
  go_ret
  exact ⟨by rw [HE.out]; rfl, by rw [HN.out]; exact P2.out, O2.out.mono (by simp)⟩
 obtain ⟨s, hs⟩ : ∃ s, P[i]? = some s := ⟨_, List.getElem?_eq_getElem hlt⟩
 have hm := many_span ⟨c0, c3⟩
 have q1 : decide ((P.length : Int) ≤ (i : Int)) = false := by rw [decide_eq_false_iff_not]; omega
 have y2 : (i : Int) < (P.length : Int) := by omega
 have z1 : (0 : Int) ≤ (k : Int) := by omega
 have z2 : (k : Int) < 8 := by omega
 rw [e1] at e2
 have HST := hq9 (fun w => class_Starts (i : Int) c w hc)
 have hsl := starts_length (i : Int) c
 have hmk : markA P line c = if (s.cls ≠ -1 ∧ s.cls ≠ c) ∨ s.at k = true then 7 else 0 := by
  unfold markA
  rw [if_neg (by rw [hh, e1]; simp; omega), e1, Int.toNat_natCast, hs, e2]
  rfl
 have HMK := hq9 hmk
 have hmp : markA P line c = 0 → markP P line c = P.modify i fun s => s.take c k := fun h0 => by
  unfold markP
  rw [if_pos h0, e1, e2]
  rfl
 have HMP := hq9 hmp
 have HS := hq9 hs
 have HTK := hq9 (fun w (h : PoolAt w g sb P) (hf : s.at k = false) => slab_take g sb P i k c s w h hs (by omega) hf)
 have HHD := hq9 (fun w (h : PoolAt w g sb P) => h.headCell)
 have HCL := hq9 (fun w (h : PoolAt w g sb P) => h.cls hs)
 have HMA := hq9 (fun w (h : PoolAt w g sb P) => h.mark hs (show k < 8 by omega))
 have E2 := hq9 e2
 clear h hh hs hmk hmp e1 e2 hm hl hk
 generalize hn : P.length = n at *
 clear hn
 generalize starts (i : Int) c = L at *
 generalize hcl : s.cls = cl at *
 go_enter Tryz.func241, Tryz.ntmps241
 go_wp2_with fail
 refine (HSO.out _).mono ?_
 rintro e w' ⟨rfl, rfl⟩
 go_wp2_with fail
 refine (HHO.out _).mono ?_
 rintro e w2 ⟨rfl, o2⟩
 have O2 := hq9 o2
 have P2 := hq9 (HP.out.only0 o2)
 clear o2
 go_wp2_with fail
 refine (HA.out _ P2.out).mono ?_
 rintro e w' ⟨rfl, rfl⟩
 have x0 := HHD.out w2 P2.out
 go_wp2_with fail
 refine (HST.out _).mono ?_
 rintro e w3 ⟨v3, rfl, A3, c3', rfl, b3, o3⟩
 have IX := hq9 (index_ints A3 L.length c3' L line w3 (is_own b3) (by omega))
 rw [E2.out] at IX
 have O3 := hq9 (O2.out.trans0 o3)
 have P3 := hq9 (P2.out.only0 o3)
 have xc := HCL.out w3 P3.out
 have xm := HMA.out w3 P3.out
 clear b3 o3 x0
 go_wp2_with fail
 refine (IX.out).mono ?_
 rintro e w' ⟨rfl, rfl⟩
 by_cases hbusy : cl ≠ -1 ∧ cl ≠ c
 ·have HE := hq9 (show markA P line c = 7 by rw [HMK.out, if_pos (.inl hbusy)])
  have HN := hq9 (show markP P line c = P by unfold markP; rw [HE.out]; rfl)
  have r1 : (cl != -1) = true := by rw [bne_iff_ne]; exact hbusy.1
  have r2 : (cl != c) = true := by rw [bne_iff_ne]; exact hbusy.2
  generalize s.at k = bb at *
  clear hbusy
  go_wp2
  go_ret
  exact ⟨by rw [HE.out]; rfl, by rw [HN.out]; exact P3.out, O3.out.mono (by simp)⟩
 by_cases hat : s.at k = true
 ·have HE := hq9 (show markA P line c = 7 by rw [HMK.out, if_pos (.inr hat)])
  have HN := hq9 (show markP P line c = P by unfold markP; rw [HE.out]; rfl)
  rw [hat] at xm
  clear hat
  by_cases hc1 : cl = -1
  ·have r1 : (cl != -1) = false := by rw [bne_eq_false_iff_eq]; exact hc1
   clear hbusy hc1
   go_wp2
   go_ret
   exact ⟨by rw [HE.out]; rfl, by rw [HN.out]; exact P3.out, O3.out.mono (by simp)⟩
  ·have r1 : (cl != -1) = true := by rw [bne_iff_ne]; exact hc1
   have r2 : (cl != c) = false := by rw [bne_eq_false_iff_eq]; omega
   clear hbusy hc1
   go_wp2
   go_ret
   exact ⟨by rw [HE.out]; rfl, by rw [HN.out]; exact P3.out, O3.out.mono (by simp)⟩
 have hat2 : s.at k = false := by simpa using hat
 have HE := hq9 (show markA P line c = 0 by rw [HMK.out, if_neg (by rw [not_or]; exact ⟨hbusy, hat⟩)])
 have HN := hq9 (HMP.out HE.out)
 have HT := hq9 (HTK.out w3 P3.out hat2)
 rw [hat2] at xm
 clear hat hat2
 by_cases hc1 : cl = -1
 ·have r1 : (cl != -1) = false := by rw [bne_eq_false_iff_eq]; exact hc1
  clear hbusy hc1
  go_wp2_with fail
  refine HT.out.mono ?_
  rintro e w4 ⟨rfl, p4, o4⟩
  have P4 := hq9 p4
  have O4 := hq9 o4
  clear p4 o4
  go_wp2
  go_ret
  exact ⟨by rw [HE.out]; rfl, by rw [HN.out]; exact P4.out, (O3.out.mono (by simp)).trans O4.out (by simp)⟩
 ·have r1 : (cl != -1) = true := by rw [bne_iff_ne]; exact hc1
  have r2 : (cl != c) = false := by rw [bne_eq_false_iff_eq]; omega
  clear hbusy hc1
  go_wp2_with fail
  refine HT.out.mono ?_
  rintro e w4 ⟨rfl, p4, o4⟩
  have P4 := hq9 p4
  have O4 := hq9 o4
  clear p4 o4
  go_wp2
  go_ret
  exact ⟨by rw [HE.out]; rfl, by rw [HN.out]; exact P4.out, (O3.out.mono (by simp)).trans O4.out (by simp)⟩
end Go.Proofs.YtlggichakafkiaaGreat
namespace Go.Proofs.FuPool
open Go.RowKit Go.Proofs.FuMem Go.Proofs.FuClass
end Go.Proofs.FuPool
namespace Go.Proofs.YtlggichakafkiaaGreat
open Go.RowKit Go.Proofs.FuMem Go.Proofs.FuClass Go.Proofs.FuPool
set_option maxRecDepth 100000
end Go.Proofs.YtlggichakafkiaaGreat
namespace Go.Proofs.FuMem
open Go.RowKit
end Go.Proofs.FuMem
namespace Go.Proofs.YtlggichakafkiaaGreat
open Go.RowKit Go.Proofs.FuMem Go.Proofs.FuClass Go.Proofs.FuPool
set_option maxRecDepth 100000
end Go.Proofs.YtlggichakafkiaaGreat
namespace Go.Proofs.YtlggichakafkiaaGreat
open Go.ChangeShapes Go.WideShapes Go.ChangeAt Go.RowKit Go.Proofs.FuMem Go.Deep
section
variable {H : Type} {enc : TypeId × Value → H} {P : Program} {w : World} {base : Nat} {held : Bool}
end
end Go.Proofs.YtlggichakafkiaaGreat
namespace Go.Proofs.FuPool
open Go.RowKit Go.Proofs.FuMem Go.Proofs.FuClass
end Go.Proofs.FuPool
namespace Go.Proofs.YtlggichakafkiaaGreat
open Go.ChangeShapes Go.WideShapes Go.ChangeAt Go.RowKit Go.Proofs.FuMem Go.Proofs.FuClass Go.Proofs.FuPool Go.Deep
set_option maxRecDepth 100000
end Go.Proofs.YtlggichakafkiaaGreat
namespace Go.Proofs.YtlggichakafkiaaGreat
open Go.RowKit Go.Proofs.FuMem Go.Proofs.FuClk
set_option maxRecDepth 100000
theorem clk_Note (g ob : Nat) (C : Clk) (t i : Nat) (w : World) (h : ClkAt w g ob C) (ht : t < C.owed.length) (hi : i < 258) :
  Calls Tryz.prog 340 #[.pointer (some ⟨g, 0, none⟩), .int .i64 t, .int .i64 i] w fun e w' => e = .returned (.int .i64 0) ∧ ClkAt w' g ob (noteC C t i) ∧ Only [g, ob] w w' := by
 have hc := h.owe
 have ho := h.owedCell ht
 have hf := h.fr2 t
 have h4 := h.ok.owed4
 have hne := h.ne
 have hn := h.notedCell hi
 have hf2 := h.fr1 (4 + i)
 have q1 : decide ((t : Int) < 0) = false := by rw [decide_eq_false_iff_not]; omega
 have q2 : decide ((C.owed.length : Int) ≤ (t : Int)) = false := by rw [decide_eq_false_iff_not]; omega
 have q3 : decide ((i : Int) < 0) = false := by rw [decide_eq_false_iff_not]; omega
 have q4 : decide ((258 : Int) ≤ (i : Int)) = false := by rw [decide_eq_false_iff_not]; omega
 have hgt : C.owed[t] = C.owed.getD t 0 := by simp [List.getD, ht]
 have o1 : Only [ob] w (w.setCell ⟨ob, t, none⟩ (.int .i64 (wrap64 (C.owed.getD t 0 + 1)))) := (Only.refl _ _).setCell (.inl (by simp)) _
 have hr := h.row.set t (.int .i64 (wrap64 (C.owed.getD t 0 + 1)))
 have hb := (h.head.only o1 (by simpa using h.ne)).set (4 + i) (.bool true)
 have o2 : Only [g] (w.setCell ⟨ob, t, none⟩ (.int .i64 (wrap64 (C.owed.getD t 0 + 1)))) ((w.setCell ⟨ob, t, none⟩ (.int .i64 (wrap64 (C.owed.getD t 0 + 1)))).setCell ⟨g, 4 + i, none⟩ (.bool true)) := (Only.refl _ _).setCell (.inl (by simp)) _
 have hr2 := hr.only o2 (by simpa using h.ne.symm)
 rw [cellsOf_raw, raw_noted h.ok.noted hi] at hb
 have hR : ClkAt ((w.setCell ⟨ob, t, none⟩ (.int .i64 (wrap64 (C.owed.getD t 0 + 1)))).setCell ⟨g, 4 + i, none⟩ (.bool true)) g ob (noteC C t i) := by
  refine ⟨?_, ?_, h.ne, noteC_ok h.ok t i⟩
  ·rw [cellsOf_raw]
   unfold noteC
   simp only [List.length_set]
   exact hb
  ·unfold noteC
   simp only [List.map_set]
   rw [List.setIfInBounds_toArray] at hr2
   exact hr2
 have HRES := hq9 hR
 have HON := hq9 ((o1.mono (T := [g, ob]) (by simp)).trans o2 (by simp))
 clear o1 o2 hr hb hr2 hR
 rw [hgt] at ho
 have hm : ∃ m, m = C.owed.length := ⟨_, rfl⟩
 obtain ⟨m, hm⟩ := hm
 rw [← hm] at hc ht h4 q2
 generalize C.owed.getD t 0 = x at *
 generalize (C.noted[i]'(by rw [h.ok.noted]; exact hi)) = y at *
 clear h hm hgt
 go_enter Tryz.func340, Tryz.ntmps340
 go_wp2
 go_ret
 exact ⟨rfl, HRES.out, HON.out⟩
theorem clk_Owed (g ob : Nat) (C : Clk) (w : World) (h : ClkAt w g ob C) :
  Calls Tryz.prog 365 #[.pointer (some ⟨g, 0, none⟩)] w fun e w' => ∃ v, e = .returned v ∧ MadeI w C.owed v w' := by
 have hc := h.owe
 have h4 := h.ok.owed4
 have hlt := h.lt1
 obtain ⟨i0, hi, hz0, hz1, hz2⟩ := info_parts Tryz.intInfo
 have o1 : Only [] w (w.alloc (.cells #[] 3)) := (Only.refl [] w).alloc _
 have hc2 : (w.alloc (.cells #[] 3)).cell? ⟨g, 3, none⟩ = some (.slice (some ⟨ob, 0, none⟩) C.owed.length C.owed.length) := (cell_only o1 hlt (by simp)).trans hc
 obtain ⟨A', c', w', hr, ho2, hs2, on2⟩ := append_own (P := Tryz.prog) (w.alloc (.cells #[] 3)) o1 23 23 3 i0 _ 8 Tryz.underlying23 hi hz0 hz1 hz2 rfl _ 0 _ (own_empty w 3) (some ⟨ob, 0, none⟩) C.owed.length C.owed.length (C.owed.map (Value.int .i64)) ((h.is).only0 o1) one_I (by unfold maxLen; omega) (by omega)
 simp only [List.nil_append, Nat.zero_add] at ho2 hr
 have H2 := hq9 (madeI_own (A := A') (c := c') rfl ho2 on2)
 clear h hi hz0 hz1 hz2 ho2 hs2 on2 o1 hc hlt h4
 generalize C.owed = L at *
 generalize L.length = m at *
 go_enter Tryz.func365, Tryz.ntmps365
 go_wp2_with (at_builtin; refine wpList_append_run _ rfl (.tmp 5) (.tmp 9) 23 rfl _ _ rfl rfl _ _ hr ?_)
 go_ret
 exact ⟨_, rfl, H2.out⟩
end Go.Proofs.YtlggichakafkiaaGreat
namespace Go.Proofs.YtlggichakafkiaaGreat
open Go.RowKit Go.Proofs.FuMem Go.Proofs.FuClk
set_option maxRecDepth 100000
end Go.Proofs.YtlggichakafkiaaGreat
namespace Go.Proofs.YtlggichakafkiaaGreat
open Go.RowKit Go.Proofs.FuMem
set_option maxRecDepth 100000
theorem int64_Add (g k : Nat) (x : Int) (w : World) (hc : w.cell? ⟨g, k, none⟩ = some (.int .i64 x)) (hf : w.frozen? ⟨g, k, none⟩ = false) :
  Calls Tryz.prog 69 #[.pointer (some ⟨g, k, none⟩), .int .i64 1] w fun e w' => e = .returned (.int .i64 (wrap64 (x + 1))) ∧ w.setCell ⟨g, k, none⟩ (.int .i64 (wrap64 (x + 1))) = w' := by
 have hadd := run_call_add (P := Tryz.prog) Tryz.func118 (by kernel_rfl) (by kernel_rfl) (by kernel_rfl) .i64 (by kernel_rfl) (y := 1) (s := wrap64 (x + 1)) hc hf (by simp [go_sem, wrap64_eq])
 go_enter Tryz.func69, Tryz.ntmps69
 go_wp2
 go_ret
 exact ⟨rfl, rfl⟩
theorem int64_Load (g k : Nat) (x : Int) (w : World) (hc : w.cell? ⟨g, k, none⟩ = some (.int .i64 x)) :
  Calls Tryz.prog 121 #[.pointer (some ⟨g, k, none⟩)] w fun e w' => e = .returned (.int .i64 x) ∧ w = w' := by
 have hl := run_call_load (P := Tryz.prog) Tryz.func163 (by kernel_rfl) (by kernel_rfl) (by kernel_rfl) .i64 (by kernel_rfl) hc
 go_enter Tryz.func121, Tryz.ntmps121
 go_wp2
 go_ret
 exact ⟨rfl, rfl⟩
theorem int64_Store (g k : Nat) (u : Value) (x : Int) (w : World) (hc : w.cell? ⟨g, k, none⟩ = some u) (hf : w.frozen? ⟨g, k, none⟩ = false) :
  Calls Tryz.prog 117 #[.pointer (some ⟨g, k, none⟩), .int .i64 x] w fun e w' => e = .returned (.tuple #[]) ∧ w.setCell ⟨g, k, none⟩ (.int .i64 x) = w' := by
 have hs := run_call_store (P := Tryz.prog) Tryz.func156 (by kernel_rfl) (by kernel_rfl) (by kernel_rfl) (by kernel_rfl) (k := .i64) (y := x) hc hf
 go_enter Tryz.func117, Tryz.ntmps117
 go_wp2
 go_end0
 exact ⟨rfl, rfl⟩
end Go.Proofs.YtlggichakafkiaaGreat
namespace Go.Proofs.FuNvm
open Go.RowKit Go.Proofs.FuMem
structure Line where
 now : List UInt8
 kept : List UInt8
 way : List UInt8
 sent : Bool
def Line.Ok (x : Line) : Prop := x.now.length = 64 ∧ x.kept.length = 64 ∧ x.way.length = 64
structure Dev where
 lines : List Line
 stores : Int
 flushes : Int
 fences : Int
 backs : Int
 cuts : Int
def cellsOf (x : Line) : List Value := x.now.map B ++ x.kept.map B ++ x.way.map B ++ [.bool x.sent]
theorem cellsOf_length {x : Line} (h : x.Ok) : (cellsOf x).length = 193 := by
 obtain ⟨h1, h2, h3⟩ := h
 simp [cellsOf, h1, h2, h3]
theorem cellsOf_one (x : Line) : ∀ v ∈ cellsOf x, v.oneCell' = true := by
 intro v hv
 simp only [cellsOf, List.mem_append, List.mem_singleton] at hv
 rcases hv with ((hv | hv) | hv) | hv
 ·exact one_B v hv
 ·exact one_B v hv
 ·exact one_B v hv
 ·subst hv; rfl
def flat (L : List Line) : List Value := L.flatMap cellsOf
def AllOk (L : List Line) : Prop := ∀ x ∈ L, x.Ok
theorem flat_cons (x : Line) (L : List Line) : flat (x :: L) = cellsOf x ++ flat L := rfl
theorem flat_append (L M : List Line) : flat (L ++ M) = flat L ++ flat M := by simp [flat]
theorem flat_length {L : List Line} (h : AllOk L) : (flat L).length = L.length * 193 := by
 induction L with
 | nil => rfl
 | cons x L ih =>
  rw [flat_cons, List.length_append, cellsOf_length (h x (by simp)), ih (fun y hy => h y (by simp [hy])), List.length_cons]
  omega
theorem AllOk.take {L : List Line} (h : AllOk L) (i : Nat) : AllOk (L.take i) := fun x hx => h x (List.mem_of_mem_take hx)
theorem AllOk.set {L : List Line} (h : AllOk L) (i : Nat) {y : Line} (hy : y.Ok) : AllOk (L.set i y) := fun x hx => by
 rcases List.mem_or_eq_of_mem_set hx with h1 | h1
 ·exact h x h1
 ·rw [h1]; exact hy
theorem AllOk.get {L : List Line} (h : AllOk L) {i : Nat} (hi : i < L.length) : (L[i]).Ok := h _ (List.getElem_mem hi)
theorem flat_split (L : List Line) (i : Nat) (hi : i < L.length) : flat L = flat (L.take i) ++ (cellsOf L[i] ++ flat (L.drop (i + 1))) := by
 rw [← flat_cons, ← flat_append, ← List.drop_eq_getElem_cons hi, List.take_append_drop]
theorem flat_read {L : List Line} (h : AllOk L) {i : Nat} (hi : i < L.length) {o m : Nat} (hm : o + m ≤ 193) : ((flat L).drop (i * 193 + o)).take m = ((cellsOf L[i]).drop o).take m := by
 have hl := flat_length (h.take i)
 rw [List.length_take, Nat.min_eq_left (by omega)] at hl
 have hc := cellsOf_length (h.get hi)
 have e : (flat L).drop (i * 193) = cellsOf L[i] ++ flat (L.drop (i + 1)) := by
  rw [flat_split L i hi, ← hl, List.drop_left]
 rw [← List.drop_drop, e, List.drop_append_of_le_length (by omega), List.take_append_of_le_length (by rw [List.length_drop]; omega)]
theorem flat_write {L : List Line} (h : AllOk L) {i : Nat} (hi : i < L.length) {o : Nat} {vs : List Value} (hm : o + vs.length ≤ 193) {y : Line}
  (hy : cellsOf y = (cellsOf L[i]).take o ++ vs ++ (cellsOf L[i]).drop (o + vs.length)) (cs : List Value) (hp : cs.take (L.length * 193) = flat L) :
  (cs.take (i * 193 + o) ++ vs ++ cs.drop (i * 193 + o + vs.length)).take (L.length * 193) = flat (L.set i y) := by
 have hl := flat_length (h.take i)
 rw [List.length_take, Nat.min_eq_left (by omega)] at hl
 have hc := cellsOf_length (h.get hi)
 have hfl := flat_length h
 have hi2 : (i + 1) * 193 ≤ L.length * 193 := Nat.mul_le_mul_right _ hi
 have hcl : L.length * 193 ≤ cs.length := by
  have := congrArg List.length hp
  rw [List.length_take, hfl] at this
  omega
 have e1 : cs.take (i * 193 + o) = flat (L.take i) ++ (cellsOf L[i]).take o := by
  have : cs.take (i * 193 + o) = (cs.take (L.length * 193)).take (i * 193 + o) := by rw [List.take_take, Nat.min_eq_left (by omega)]
  rw [this, hp, flat_split L i hi, List.take_append, hl, List.take_of_length_le (by omega), show i * 193 + o - i * 193 = o by omega, List.take_append_of_le_length (by omega)]
 have e2 : (cs.drop (i * 193 + o + vs.length)).take (L.length * 193 - (i * 193 + o + vs.length)) = (cellsOf L[i]).drop (o + vs.length) ++ flat (L.drop (i + 1)) := by
  rw [← List.drop_take, hp, flat_split L i hi, List.drop_append, hl, List.drop_eq_nil_of_le (by omega), List.nil_append, show i * 193 + o + vs.length - i * 193 = o + vs.length by omega, List.drop_append_of_le_length (by omega)]
 have hlen : (cs.take (i * 193 + o) ++ vs).length = i * 193 + o + vs.length := by
  rw [List.length_append, List.length_take, Nat.min_eq_left (by omega)]
 rw [List.take_append, List.take_of_length_le (by omega), hlen, e2, e1]
 have hset : L.set i y = L.take i ++ y :: L.drop (i + 1) := by rw [List.set_eq_take_append_cons_drop, if_pos hi]
 rw [hset, flat_append, flat_cons, hy]
 simp only [List.append_assoc]
/-! ### in memory -/
def headOf (cb cap : Nat) (D : Dev) : Array Value := #[.slice (some ⟨cb, 0, none⟩) D.lines.length cap, .int .i64 D.stores, .int .i64 D.flushes, .int .i64 D.fences, .int .i64 D.backs, .int .i64 D.cuts]
structure IsDev (tD tC : TypeId) (w : World) (g cb cap : Nat) (D : Dev) : Prop where
 head : Blk w g tD (headOf cb cap D)
 body : ∃ cs, Blk w cb tC cs ∧ cs.toList.take (D.lines.length * 193) = flat D.lines
 ne : g ≠ cb
 ok : AllOk D.lines
 few : D.lines.length ≤ 258
 cap_le : D.lines.length ≤ cap
section
variable {tD tC : TypeId} {w w' : World} {S : List Nat} {g cb cap : Nat} {D : Dev}
theorem IsDev.only (h : IsDev tD tC w g cb cap D) (ho : Only S w w') (h1 : g ∉ S) (h2 : cb ∉ S) : IsDev tD tC w' g cb cap D :=
 ⟨h.head.only ho h1, let ⟨cs, hb, hp⟩ := h.body; ⟨cs, hb.only ho h2, hp⟩, h.ne, h.ok, h.few, h.cap_le⟩
theorem IsDev.only0 (h : IsDev tD tC w g cb cap D) (ho : Only [] w w') : IsDev tD tC w' g cb cap D := h.only ho (by simp) (by simp)
theorem IsDev.lt1 (h : IsDev tD tC w g cb cap D) : g < w.heap.size := h.head.lt
theorem IsDev.lt2 (h : IsDev tD tC w g cb cap D) : cb < w.heap.size := let ⟨_, hb, _⟩ := h.body; hb.lt
theorem body_size {cs : Array Value} (hok : AllOk D.lines) (hp : cs.toList.take (D.lines.length * 193) = flat D.lines) : D.lines.length * 193 ≤ cs.size := by
 have := congrArg List.length hp
 rw [List.length_take, flat_length hok, Array.length_toList] at this
 omega
theorem IsDev.sl (h : IsDev tD tC w g cb cap D) {i : Nat} (hi : i < D.lines.length) {o m : Nat} (hm : o + m ≤ 193) : Sl w (some ⟨cb, i * 193 + o, none⟩) m (((cellsOf D.lines[i]).drop o).take m) := by
 obtain ⟨cs, hb, hp⟩ := h.body
 have hs := body_size h.ok hp
 have hi2 : (i + 1) * 193 ≤ D.lines.length * 193 := Nat.mul_le_mul_right _ hi
 refine Sl.of_blk hb (i * 193 + o) ?_ (by omega)
 rw [← flat_read h.ok hi hm, ← hp, List.drop_take, List.take_take, Nat.min_eq_left (by omega)]
theorem IsDev.now (h : IsDev tD tC w g cb cap D) {i : Nat} (hi : i < D.lines.length) : Bs w (some ⟨cb, i * 193, none⟩) 64 (D.lines[i]).now := by
 have := h.sl hi (o := 0) (m := 64) (by omega)
 obtain ⟨h1, h2, h3⟩ := h.ok.get hi
 rw [List.drop_zero, cellsOf, List.append_assoc, List.append_assoc, List.take_append_of_le_length (by simp [h1]), List.take_of_length_le (by simp [h1])] at this
 exact this
theorem IsDev.kept (h : IsDev tD tC w g cb cap D) {i : Nat} (hi : i < D.lines.length) : Bs w (some ⟨cb, i * 193 + 64, none⟩) 64 (D.lines[i]).kept := by
 have := h.sl hi (o := 64) (m := 64) (by omega)
 obtain ⟨h1, h2, h3⟩ := h.ok.get hi
 rw [cellsOf, List.append_assoc, List.append_assoc, List.drop_append, List.drop_eq_nil_of_le (by simp [h1]), List.nil_append, List.length_map, h1, Nat.sub_self, List.drop_zero, List.take_append_of_le_length (by simp [h2]), List.take_of_length_le (by simp [h2])] at this
 exact this
theorem IsDev.way (h : IsDev tD tC w g cb cap D) {i : Nat} (hi : i < D.lines.length) : Bs w (some ⟨cb, i * 193 + 128, none⟩) 64 (D.lines[i]).way := by
 have := h.sl hi (o := 128) (m := 64) (by omega)
 obtain ⟨h1, h2, h3⟩ := h.ok.get hi
 rw [cellsOf, List.append_assoc, List.drop_append, List.drop_eq_nil_of_le (by simp [h1, h2]), List.nil_append, List.length_append, List.length_map, List.length_map, h1, h2, Nat.sub_self, List.drop_zero, List.take_append_of_le_length (by simp [h3]), List.take_of_length_le (by simp [h3])] at this
 exact this
theorem IsDev.sentCell (h : IsDev tD tC w g cb cap D) {i : Nat} (hi : i < D.lines.length) : w.cell? ⟨cb, i * 193 + 192, none⟩ = some (.bool (D.lines[i]).sent) := by
 have := h.sl hi (o := 192) (m := 1) (by omega)
 obtain ⟨h1, h2, h3⟩ := h.ok.get hi
 rw [cellsOf, List.drop_append, List.drop_eq_nil_of_le (by simp [h1, h2, h3]), List.nil_append, List.length_append, List.length_append, List.length_map, List.length_map, List.length_map, h1, h2, h3] at this
 obtain ⟨b, off, e, hc⟩ := this.at_ (by omega)
 cases e
 simpa using hc 0 (by simp)
theorem IsDev.frozen2 (h : IsDev tD tC w g cb cap D) (k : Nat) : w.frozen? ⟨cb, k, none⟩ = false := let ⟨_, hb, _⟩ := h.body; hb.frozen k
theorem IsDev.frozen1 (h : IsDev tD tC w g cb cap D) (k : Nat) : w.frozen? ⟨g, k, none⟩ = false := h.head.frozen k
theorem IsDev.cell (h : IsDev tD tC w g cb cap D) (k : Nat) : w.cell? ⟨g, k, none⟩ = (headOf cb cap D)[k]? := h.head.cell k
theorem IsDev.write (h : IsDev tD tC w g cb cap D) {i : Nat} (hi : i < D.lines.length) {o : Nat} {vs : List Value} (hm : o + vs.length ≤ 193) {y : Line}
  (hy : cellsOf y = (cellsOf D.lines[i]).take o ++ vs ++ (cellsOf D.lines[i]).drop (o + vs.length)) (hyo : y.Ok)
  (cs : Array Value) (hp : cs.toList.take (D.lines.length * 193) = flat D.lines) (hb : Blk w' cb tC (FuMem.splice cs (i * 193 + o) vs)) (on : Only [cb] w w') :
  IsDev tD tC w' g cb cap { D with lines := D.lines.set i y } := by
 refine ⟨?_, ⟨_, hb, ?_⟩, h.ne, h.ok.set i hyo, by simpa using h.few, by simpa using h.cap_le⟩
 ·have := h.head.only on (by simpa using h.ne)
  unfold headOf at this ⊢
  simpa using this
 ·have := flat_write h.ok hi hm hy cs.toList hp
  unfold FuMem.splice
  simpa using this
end
end Go.Proofs.FuNvm
namespace Go.Proofs.YtlggichakafkiaaGreat
open Go.RowKit Go.Proofs.FuMem Go.Proofs.FuNvm Go.Proofs.FuCode
set_option maxRecDepth 100000
theorem byteSizeN : (Tryz.prog.info? 5).map (·.size) = some 1 := by kernel_rfl
def noPlace (len : Nat) (line at_ n : Int) : Prop := line < 0 ∨ (len : Int) ≤ line ∨ at_ < 0 ∨ 64 - n < at_
abbrev DevAt (w : World) (g cb cap : Nat) (D : Dev) : Prop := IsDev 152 157 w g cb cap D
theorem nvm_there_no (g cb cap : Nat) (D : Dev) (line at_ n : Int) (w : World) (hd : DevAt w g cb cap D) (hn : 0 ≤ n ∧ n ≤ 9223372036854775807) (h : noPlace D.lines.length line at_ n) :
  Calls Tryz.prog 68 #[.pointer (some ⟨g, 0, none⟩), .int .i64 line, .int .i64 at_, .int .i64 n] w fun e w' => e = .returned (.int .i64 2) ∧ w = w' := by
 have hc : w.cell? ⟨g, 0, none⟩ = some (.slice (some ⟨cb, 0, none⟩) D.lines.length cap) := hd.cell 0
 have hf := hd.few
 clear hd
 unfold noPlace at h
 generalize D.lines.length = m at *
 by_cases h1 : line < 0
 ·clear h
  go_enter Tryz.func68, Tryz.ntmps68
  go_wp2
  go_ret
  exact ⟨rfl, rfl⟩
 by_cases h2 : (m : Int) ≤ line
 ·clear h
  go_enter Tryz.func68, Tryz.ntmps68
  go_wp2
  go_ret
  exact ⟨rfl, rfl⟩
 by_cases h3 : at_ < 0
 ·clear h
  go_enter Tryz.func68, Tryz.ntmps68
  go_wp2
  go_ret
  exact ⟨rfl, rfl⟩
 have h4 : 64 - n < at_ := by omega
 clear h
 go_enter Tryz.func68, Tryz.ntmps68
 go_wp2
 go_ret
 exact ⟨rfl, rfl⟩
theorem nvm_there_yes (g cb cap : Nat) (D : Dev) (line at_ n : Int) (w : World) (hd : DevAt w g cb cap D) (hn : 0 ≤ n ∧ n ≤ 9223372036854775807) (h : ¬ noPlace D.lines.length line at_ n) :
  Calls Tryz.prog 68 #[.pointer (some ⟨g, 0, none⟩), .int .i64 line, .int .i64 at_, .int .i64 n] w fun e w' => e = .returned (.int .i64 0) ∧ w = w' := by
 have hc : w.cell? ⟨g, 0, none⟩ = some (.slice (some ⟨cb, 0, none⟩) D.lines.length cap) := hd.cell 0
 have hf := hd.few
 clear hd
 unfold noPlace at h
 generalize D.lines.length = m at *
 have h1 : 0 ≤ line := by omega
 have h2 : line < m := by omega
 have h3 : 0 ≤ at_ := by omega
 have h4 : at_ ≤ 64 - n := by omega
 clear h
 go_enter Tryz.func68, Tryz.ntmps68
 go_wp2
 go_ret
 exact ⟨rfl, rfl⟩
theorem nvm_Lines (g cb cap : Nat) (D : Dev) (w : World) (hd : DevAt w g cb cap D) :
  Calls Tryz.prog 32 #[.pointer (some ⟨g, 0, none⟩)] w fun e w' => e = .returned (.int .i64 D.lines.length) ∧ w = w' := by
 have hc : w.cell? ⟨g, 0, none⟩ = some (.slice (some ⟨cb, 0, none⟩) D.lines.length cap) := hd.cell 0
 clear hd
 generalize D.lines.length = m at *
 go_enter Tryz.func32, Tryz.ntmps32
 go_wp2
 go_ret
 exact ⟨rfl, rfl⟩
theorem nvm_Load_no (g cb cap : Nat) (D : Dev) (line : Int) (w : World) (hd : DevAt w g cb cap D) (h : noPlace D.lines.length line 0 0) :
  Calls Tryz.prog 40 #[.pointer (some ⟨g, 0, none⟩), .int .i64 line] w fun e w' => e = .returned (.tuple #[.slice none 0 0, .int .i64 2]) ∧ w = w' := by
 have HT := hq9 (nvm_there_no g cb cap D line 0 0 w hd (by omega) h)
 clear hd h
 go_enter Tryz.func40, Tryz.ntmps40
 go_wp2_with fail
 refine (HT.out).mono ?_
 rintro e w' ⟨rfl, rfl⟩
 go_wp2
 go_ret2
 exact ⟨rfl, rfl⟩
theorem nvm_Load (g cb cap : Nat) (D : Dev) (i : Nat) (x : Line) (hx : D.lines[i]? = some x) (w : World) (hd : DevAt w g cb cap D) :
  Calls Tryz.prog 40 #[.pointer (some ⟨g, 0, none⟩), .int .i64 i] w fun e w' => ∃ v, e = .returned (.tuple #[v, .int .i64 0]) ∧ MadeB w x.now v w' := by
 obtain ⟨hi, rfl⟩ := List.getElem?_eq_some_iff.1 hx
 have hc : w.cell? ⟨g, 0, none⟩ = some (.slice (some ⟨cb, 0, none⟩) D.lines.length cap) := hd.cell 0
 have hf := hd.few
 have HT := hq9 (nvm_there_yes g cb cap D i 0 0 w hd (by omega) (by unfold noPlace; omega))
 have hcl := clone_bytes _ 64 64 _ w (hd.now hi) (by omega)
 have HC := hq9 hcl
 clear hd hcl hx
 generalize (D.lines[i]).now = l at *
 generalize D.lines.length = m at *
 go_enter Tryz.func40, Tryz.ntmps40
 go_wp2_with fail
 refine (HT.out).mono ?_
 rintro e w' ⟨rfl, rfl⟩
 go_wp2_with fail
 refine (HC.out).mono ?_
 rintro e w1 ⟨_, rfl, A1, c1, rfl, m1, o1⟩
 have M1 := hq9 m1
 have O1 := hq9 o1
 clear m1 o1
 go_wp2
 go_ret2
 exact ⟨.slice A1 l.length c1, rfl, A1, c1, rfl, M1.out, O1.out⟩
theorem nvm_Store_no (g cb cap : Nat) (D : Dev) (line at_ : Int) (A : Option Addr) (n c : Nat) (w : World) (hd : DevAt w g cb cap D) (hn : n ≤ maxLen) (h : noPlace D.lines.length line at_ n) :
  Calls Tryz.prog 33 #[.pointer (some ⟨g, 0, none⟩), .int .i64 line, .int .i64 at_, .slice A n c] w fun e w' => e = .returned (.int .i64 2) ∧ w = w' := by
 unfold maxLen at hn
 have HT := hq9 (nvm_there_no g cb cap D line at_ n w hd (by omega) h)
 clear hd h
 go_enter Tryz.func33, Tryz.ntmps33
 go_wp2_with fail
 refine (HT.out).mono ?_
 rintro e w' ⟨rfl, rfl⟩
 go_wp2
 go_ret
 exact ⟨rfl, rfl⟩
def storeD (D : Dev) (i : Nat) (x : Line) (a : Nat) (l : List UInt8) : Dev := { D with lines := D.lines.set i { x with now := over x.now a l }, stores := wrap64 (D.stores + 1) }
theorem storeD_nil (D : Dev) (i a : Nat) (hi : i < D.lines.length) : (storeD D i (D.lines[i]) a []).lines = D.lines := by
 unfold storeD
 rw [over_nil]
 exact List.set_getElem_self hi
theorem over_cells (x : Line) (h : x.Ok) (a : Nat) (l : List UInt8) (hl : a + l.length ≤ 64) : cellsOf { x with now := over x.now a l } = (cellsOf x).take a ++ l.map B ++ (cellsOf x).drop (a + (l.map B).length) := by
 obtain ⟨h1, h2, h3⟩ := h
 unfold cellsOf over
 simp only [List.map_append, List.length_map, List.append_assoc, List.map_take, List.map_drop]
 rw [List.take_append_of_le_length (by simp; omega), List.drop_append_of_le_length (by simp; omega)]
theorem over_ok {x : Line} (h : x.Ok) {a : Nat} {l : List UInt8} (hl : a + l.length ≤ 64) : ({ x with now := over x.now a l } : Line).Ok :=
 ⟨by rw [over_length _ _ _ (by rw [h.1]; exact hl), h.1], h.2.1, h.2.2⟩
theorem IsDev.count {tD tC : TypeId} {w : World} {g cb cap : Nat} {D D' : Dev} (h : IsDev tD tC w g cb cap D) (k : Nat) (z : Int) (hl : D'.lines = D.lines) (he : (headOf cb cap D).setIfInBounds k (.int .i64 z) = headOf cb cap D') :
  IsDev tD tC (w.setCell ⟨g, k, none⟩ (.int .i64 z)) g cb cap D' ∧ Only [g] w (w.setCell ⟨g, k, none⟩ (.int .i64 z)) := by
 have on : Only [g] w (w.setCell ⟨g, k, none⟩ (.int .i64 z)) := (Only.refl [g] w).setCell (p := ⟨g, k, none⟩) (.inl (by simp)) _
 obtain ⟨cs, hb, hp⟩ := h.body
 refine ⟨⟨?_, ⟨cs, hb.only on (by simpa using h.ne.symm), by rw [hl]; exact hp⟩, h.ne, by rw [hl]; exact h.ok, by rw [hl]; exact h.few, by rw [hl]; exact h.cap_le⟩, on⟩
 rw [← he]
 exact h.head.set k _
set_option maxHeartbeats 400000 in
theorem nvm_Store (g cb cap : Nat) (D : Dev) (i a : Nat) (x : Line) (hx : D.lines[i]? = some x) (A : Option Addr) (n c : Nat) (l : List UInt8) (w : World) (hd : DevAt w g cb cap D) (hl : Bs w A n l) (ha : a + n ≤ 64) :
  Calls Tryz.prog 33 #[.pointer (some ⟨g, 0, none⟩), .int .i64 i, .int .i64 a, .slice A n c] w fun e w' => e = .returned (.int .i64 0) ∧ DevAt w' g cb cap (storeD D i x a l) ∧ Only [g, cb] w w' := by
 obtain ⟨hi, rfl⟩ := List.getElem?_eq_some_iff.1 hx
 have hc : w.cell? ⟨g, 0, none⟩ = some (.slice (some ⟨cb, 0, none⟩) D.lines.length cap) := hd.cell 0
 have hf := hd.few
 have HT := hq9 (nvm_there_yes g cb cap D i a n w hd (by omega) (by unfold noPlace; omega))
 have HD := hq9 hd
 have HL := hq9 hl
 have HN := hq9 hl.len
 obtain ⟨cs, hb, hp⟩ := hd.body
 have hs := body_size hd.ok hp
 have hi2 : (i + 1) * 193 ≤ D.lines.length * 193 := Nat.mul_le_mul_right _ hi
 have HB := hq9 hb
 have HP := hq9 hp
 have HS := hq9 hs
 have hfit : i * 193 + a + (64 - a) ≤ cs.size := by omega
 clear hd hl hb hp hs hx hi2
 obtain ⟨i0, hi0, hz0, hz1, hz2⟩ := info_parts Tryz.byteInfo
 have hsd : storeD D i (D.lines[i]) a l = storeD D i (D.lines[i]) a l := rfl
 by_cases ha64 : a = 64
 ·subst ha64
  have hn0 : n = 0 := by omega
  have hl0 : l = [] := List.eq_nil_of_length_eq_zero (by rw [HN.out]; exact hn0)
  have hsl := fun w => run_sliceAt_end (P := Tryz.prog) Tryz.underlying155 i0 hi0 cb (i * 193) w
  have hx0 : 0 + 0 ≤ cs.size := by omega
  have H0 := hq9 hn0
  have HL0 := hq9 hl0
  have hB := HB.out
  have hL := HL.out
  have hc1 := HD.out.cell 1
  have hf1 := HD.out.frozen1 1
  have hcnt := IsDev.count (D' := storeD D i (D.lines[i]) 64 l) HD.out 1 (wrap64 (D.stores + 1)) (by
   rw [HL0.out]
   exact storeD_nil D i 64 hi) (by
   unfold storeD headOf
   simp)
  have HCN := hq9 hcnt
  clear hn0 hl0 hsd hi0 hz0 hz1 hz2 hcnt
  go_enter Tryz.func33, Tryz.ntmps33
  go_wp2_with fail
  refine (HT.out).mono ?_
  rintro e w' ⟨rfl, rfl⟩
  go_wp2_with ((with_reducible show wpList _ _ _ (Oper.mk (some 29) _ _ _ _ _ :: _) _ _); refine wpList_copy_nothing rfl (.tmp 27) (.tmp 28) 71 71 rfl 5 Tryz.underlying71 byteSizeN _ _ 0 0 n c rfl rfl (by rw [H0.out]; rfl) ?_)
  refine (int64_Add g 1 D.stores w hc1 hf1).mono ?_
  rintro e w3 ⟨rfl, rfl⟩
  go_wp2
  go_ret
  exact ⟨rfl, HCN.out.1, HCN.out.2.mono (by simp)⟩
 ·have ha1 : a < 64 := by omega
  have hsl := fun w => run_sliceAt_low (P := Tryz.prog) Tryz.underlying155 i0 hi0 hz1 cb (i * 193) a ha1 w
  have hsp : FuMem.splice cs (i * 193 + a) ((l.map B).take (64 - a)) = FuMem.splice cs (i * 193 + a) (l.map B) := by
   rw [List.take_of_length_le (by rw [List.length_map, HN.out]; omega)]
  have H1 := hq9 hsp
  have hB := HB.out
  have hL := HL.out
  clear ha64 hi0 hz0 hz1 hz2 hsd hsp
  go_enter Tryz.func33, Tryz.ntmps33
  go_wp2_with fail
  refine (HT.out).mono ?_
  rintro e w' ⟨rfl, rfl⟩
  go_wp2_with ((with_reducible show wpList _ _ _ (Oper.mk (some 29) _ _ _ _ _ :: _) _ _); refine wpList_copy_blk rfl (.tmp 27) (.tmp 28) 71 71 rfl 5 Tryz.underlying71 byteSizeN cb (i * 193 + a) (64 - a) (64 - a) A n c rfl rfl _ cs hB hfit (l.map B) hL one_B ?_; intro w2 hb2 ho2 hs2; rw [H1.out] at hb2)
  have hd2 : DevAt w2 g cb cap { D with lines := D.lines.set i { D.lines[i] with now := over (D.lines[i]).now a l } } :=
   HD.out.write hi (o := a) (vs := l.map B) (by rw [List.length_map, HN.out]; omega) (over_cells _ (HD.out.ok.get hi) a l (by rw [HN.out]; exact ha)) (over_ok (HD.out.ok.get hi) (by rw [HN.out]; exact ha)) cs HP.out hb2 ho2
  have hc1 := hd2.cell 1
  have hf1 := hd2.frozen1 1
  have hcnt := IsDev.count (D' := storeD D i (D.lines[i]) a l) hd2 1 (wrap64 (D.stores + 1)) rfl (by unfold storeD headOf; simp)
  have HCN := hq9 hcnt
  have HO2 := hq9 ho2
  clear hcnt hd2 hb2 ho2
  refine (int64_Add g 1 D.stores w2 hc1 hf1).mono ?_
  rintro e w3 ⟨rfl, rfl⟩
  go_wp2
  go_ret
  exact ⟨rfl, HCN.out.1, (HO2.out.mono (by simp)).trans HCN.out.2 (by simp)⟩
end Go.Proofs.YtlggichakafkiaaGreat
namespace Go.Proofs.YtlggichakafkiaaGreat
open Go.RowKit Go.Proofs.FuMem Go.Proofs.FuNvm Go.Proofs.FuCode
set_option maxRecDepth 100000
theorem cells_now (x : Line) (h : x.Ok) (l : List UInt8) (hl : l.length = 64) : cellsOf { x with now := l } = (cellsOf x).take 0 ++ l.map B ++ (cellsOf x).drop (0 + (l.map B).length) := by
 obtain ⟨h1, _, _⟩ := h
 have e : (cellsOf x).drop (0 + (l.map B).length) = x.kept.map B ++ (x.way.map B ++ [.bool x.sent]) := by
  unfold cellsOf
  rw [List.append_assoc, List.append_assoc]
  exact List.drop_left' (by simp [h1, hl])
 rw [e]
 simp [cellsOf]
theorem cells_kept (x : Line) (h : x.Ok) (l : List UInt8) (hl : l.length = 64) : cellsOf { x with kept := l } = (cellsOf x).take 64 ++ l.map B ++ (cellsOf x).drop (64 + (l.map B).length) := by
 obtain ⟨h1, h2, _⟩ := h
 have e : (cellsOf x).drop (64 + (l.map B).length) = x.way.map B ++ [.bool x.sent] := by
  unfold cellsOf
  rw [List.append_assoc]
  exact List.drop_left' (by simp [h1, h2, hl])
 have e2 : (cellsOf x).take 64 = x.now.map B := by
  unfold cellsOf
  rw [List.append_assoc, List.append_assoc]
  exact List.take_left' (by simp [h1])
 rw [e, e2]
 simp [cellsOf]
theorem cells_way (x : Line) (h : x.Ok) (l : List UInt8) (hl : l.length = 64) : cellsOf { x with way := l } = (cellsOf x).take 128 ++ l.map B ++ (cellsOf x).drop (128 + (l.map B).length) := by
 obtain ⟨h1, h2, h3⟩ := h
 have e : (cellsOf x).drop (128 + (l.map B).length) = [.bool x.sent] := by
  unfold cellsOf
  exact List.drop_left' (by simp [h1, h2, h3, hl])
 have e2 : (cellsOf x).take 128 = x.now.map B ++ x.kept.map B := by
  unfold cellsOf
  rw [List.append_assoc]
  exact List.take_left' (by simp [h1, h2])
 rw [e, e2]
 simp [cellsOf]
theorem cells_sent (x : Line) (h : x.Ok) (b : Bool) : cellsOf { x with sent := b } = (cellsOf x).take 192 ++ [.bool b] ++ (cellsOf x).drop (192 + [Value.bool b].length) := by
 have hl := cellsOf_length h
 obtain ⟨h1, h2, h3⟩ := h
 rw [List.drop_eq_nil_of_le (by simp; omega)]
 unfold cellsOf
 rw [List.take_append_of_le_length (by simp [h1, h2, h3]), List.take_of_length_le (by simp [h1, h2, h3])]
 simp
section
variable {tD tC : TypeId} {w w' : World} {g cb cap : Nat} {D : Dev}
theorem set_splice (cs : Array Value) (k : Nat) (v : Value) (h : k < cs.size) : cs.setIfInBounds k v = FuMem.splice cs k [v] := by
 apply Array.ext'
 unfold FuMem.splice
 rw [Array.toList_setIfInBounds, List.set_eq_take_append_cons_drop, if_pos (by simpa using h)]
 simp
theorem IsDev.setSent (h : IsDev tD tC w g cb cap D) {i : Nat} (hi : i < D.lines.length) (b : Bool) :
  IsDev tD tC (w.setCell ⟨cb, i * 193 + 192, none⟩ (.bool b)) g cb cap { D with lines := D.lines.set i { D.lines[i] with sent := b } } ∧ Only [cb] w (w.setCell ⟨cb, i * 193 + 192, none⟩ (.bool b)) := by
 have on : Only [cb] w (w.setCell ⟨cb, i * 193 + 192, none⟩ (.bool b)) := (Only.refl [cb] w).setCell (p := ⟨cb, i * 193 + 192, none⟩) (.inl (by simp)) _
 obtain ⟨cs, hb, hp⟩ := h.body
 have hs := body_size h.ok hp
 have hi2 : (i + 1) * 193 ≤ D.lines.length * 193 := Nat.mul_le_mul_right _ hi
 have hb2 := hb.set (i * 193 + 192) (.bool b)
 rw [set_splice cs _ _ (by omega)] at hb2
 exact ⟨h.write hi (o := 192) (vs := [.bool b]) (by simp) (cells_sent _ (h.ok.get hi) b) (h.ok.get hi) cs hp hb2 on, on⟩
end
def flushL (x : Line) : Line := { x with way := x.now, sent := true }
def backL (x : Line) : Line := { x with kept := x.now, sent := false }
def flushD (D : Dev) (i : Nat) (x : Line) : Dev := { D with lines := D.lines.set i (flushL x), flushes := wrap64 (D.flushes + 1) }
def backD (D : Dev) (i : Nat) (x : Line) : Dev := { D with lines := D.lines.set i (backL x), backs := wrap64 (D.backs + 1) }
theorem lineSize : (Tryz.prog.info? 155).map (·.size) = some 64 := by kernel_rfl
theorem nvm_Flush_no (g cb cap : Nat) (D : Dev) (line : Int) (w : World) (hd : DevAt w g cb cap D) (h : noPlace D.lines.length line 0 0) :
  Calls Tryz.prog 178 #[.pointer (some ⟨g, 0, none⟩), .int .i64 line] w fun e w' => e = .returned (.int .i64 2) ∧ w = w' := by
 have HT := hq9 (nvm_there_no g cb cap D line 0 0 w hd (by omega) h)
 clear hd h
 go_enter Tryz.func178, Tryz.ntmps178
 go_wp2_with fail
 refine (HT.out).mono ?_
 rintro e w' ⟨rfl, rfl⟩
 go_wp2
 go_ret
 exact ⟨rfl, rfl⟩
theorem nvm_Back_no (g cb cap : Nat) (D : Dev) (line : Int) (w : World) (hd : DevAt w g cb cap D) (h : noPlace D.lines.length line 0 0) :
  Calls Tryz.prog 34 #[.pointer (some ⟨g, 0, none⟩), .int .i64 line] w fun e w' => e = .returned (.int .i64 2) ∧ w = w' := by
 have HT := hq9 (nvm_there_no g cb cap D line 0 0 w hd (by omega) h)
 clear hd h
 go_enter Tryz.func34, Tryz.ntmps34
 go_wp2_with fail
 refine (HT.out).mono ?_
 rintro e w' ⟨rfl, rfl⟩
 go_wp2
 go_ret
 exact ⟨rfl, rfl⟩
set_option maxHeartbeats 400000 in
theorem nvm_Flush (g cb cap : Nat) (D : Dev) (i : Nat) (x : Line) (hx : D.lines[i]? = some x) (w : World) (hd : DevAt w g cb cap D) :
  Calls Tryz.prog 178 #[.pointer (some ⟨g, 0, none⟩), .int .i64 i] w fun e w' => e = .returned (.int .i64 0) ∧ DevAt w' g cb cap (flushD D i x) ∧ Only [g, cb] w w' := by
 obtain ⟨hi, rfl⟩ := List.getElem?_eq_some_iff.1 hx
 have hc : w.cell? ⟨g, 0, none⟩ = some (.slice (some ⟨cb, 0, none⟩) D.lines.length cap) := hd.cell 0
 have hf := hd.few
 have HT := hq9 (nvm_there_yes g cb cap D i 0 0 w hd (by omega) (by unfold noPlace; omega))
 have HD := hq9 hd
 have hok := hd.ok.get hi
 have hlen := hok.1
 have hnow := hd.now hi
 rw [← hlen] at hnow
 have hsz : (Tryz.prog.info? 155).map (·.size) = some (D.lines[i]).now.length := by rw [hlen]; exact lineSize
 have hsz2 : (Tryz.prog.info? 155).map (·.size) = some ((D.lines[i]).now.map B).toArray.size := by rw [List.size_toArray, List.length_map, hlen]; exact lineSize
 obtain ⟨cs, hb, hp⟩ := hd.body
 have hs := body_size hd.ok hp
 have hi2 : (i + 1) * 193 ≤ D.lines.length * 193 := Nat.mul_le_mul_right _ hi
 have hfit : i * 193 + 128 + ((D.lines[i]).now.map B).toArray.size ≤ cs.size := by rw [List.size_toArray, List.length_map, hlen]; omega
 have HOK := hq9 hok
 have HLEN := hq9 hlen
 have HS1 := hq9 hsz
 have HS2 := hq9 hsz2
 have HP := hq9 hp
 clear hok hlen hsz hsz2 hp hs hi2 hd hx
 go_enter Tryz.func178, Tryz.ntmps178
 go_wp2_with fail
 refine (HT.out).mono ?_
 rintro e w' ⟨rfl, rfl⟩
 go_wp2_with (first
  | ((with_reducible show wpList _ _ _ (Oper.mk (some 24) _ _ _ _ _ :: _) _ _); refine wpList_load_arr rfl 155 (.tmp 23) rfl cb (i * 193) rfl (D.lines[i]).now hnow 64 5 Tryz.underlying155 HS1.out ?_)
  | ((with_reducible show wpList _ _ _ (Oper.mk none _ _ _ _ _ :: _) _ _); refine wpList_store_blk rfl 155 (.tmp 26) (.tmp 24) rfl cb (i * 193 + 128) ((D.lines[i]).now.map B).toArray rfl rfl 157 cs hb hfit HS2.out (all_B _) ?_; intro w2 hb2 ho2 hs2; have hd2 : DevAt w2 g cb cap { D with lines := D.lines.set i { D.lines[i] with way := (D.lines[i]).now } } := HD.out.write hi (o := 128) (vs := (D.lines[i]).now.map B) (by rw [List.length_map, HLEN.out]; omega) (cells_way _ HOK.out _ HLEN.out) ⟨HOK.out.1, HOK.out.2.1, HOK.out.1⟩ cs HP.out hb2 ho2; have hc2 := hd2.cell 0; have hsc := hd2.sentCell (i := i) (by simpa using hi); have hfz := hd2.frozen2 (i * 193 + 192)))
 have hsw := IsDev.setSent hd2 (i := i) (by simpa using hi) true
 have hl2 : ({ { D with lines := D.lines.set i { D.lines[i] with way := (D.lines[i]).now } } with lines := (D.lines.set i { D.lines[i] with way := (D.lines[i]).now }).set i { ((D.lines.set i { D.lines[i] with way := (D.lines[i]).now })[i]'(by simpa using hi)) with sent := true } } : Dev) = { D with lines := D.lines.set i (flushL (D.lines[i])) } := by
  simp [flushL]
 have hd3 := hsw.1
 rw [hl2] at hd3
 have hc3 := hd3.cell 2
 have hf3 := hd3.frozen1 2
 have hcnt := IsDev.count (D' := flushD D i (D.lines[i])) hd3 2 (wrap64 (D.flushes + 1)) rfl (by unfold flushD headOf; simp)
 have HCN := hq9 hcnt
 have HO2 := hq9 (ho2.trans hsw.2 (by simp))
 clear hcnt hd2 hb2 ho2 hc2 hsc hfz hsw hl2 hd3 hb
 refine (int64_Add g 2 D.flushes _ hc3 hf3).mono ?_
 rintro e w3 ⟨rfl, rfl⟩
 go_wp2
 go_ret
 exact ⟨rfl, HCN.out.1, (HO2.out.mono (by simp)).trans HCN.out.2 (by simp)⟩
set_option maxHeartbeats 400000 in
theorem nvm_Back (g cb cap : Nat) (D : Dev) (i : Nat) (x : Line) (hx : D.lines[i]? = some x) (w : World) (hd : DevAt w g cb cap D) :
  Calls Tryz.prog 34 #[.pointer (some ⟨g, 0, none⟩), .int .i64 i] w fun e w' => e = .returned (.int .i64 0) ∧ DevAt w' g cb cap (backD D i x) ∧ Only [g, cb] w w' := by
 obtain ⟨hi, rfl⟩ := List.getElem?_eq_some_iff.1 hx
 have hc : w.cell? ⟨g, 0, none⟩ = some (.slice (some ⟨cb, 0, none⟩) D.lines.length cap) := hd.cell 0
 have hf := hd.few
 have HT := hq9 (nvm_there_yes g cb cap D i 0 0 w hd (by omega) (by unfold noPlace; omega))
 have HD := hq9 hd
 have hok := hd.ok.get hi
 have hlen := hok.1
 have hnow := hd.now hi
 rw [← hlen] at hnow
 have hsz : (Tryz.prog.info? 155).map (·.size) = some (D.lines[i]).now.length := by rw [hlen]; exact lineSize
 have hsz2 : (Tryz.prog.info? 155).map (·.size) = some ((D.lines[i]).now.map B).toArray.size := by rw [List.size_toArray, List.length_map, hlen]; exact lineSize
 obtain ⟨cs, hb, hp⟩ := hd.body
 have hs := body_size hd.ok hp
 have hi2 : (i + 1) * 193 ≤ D.lines.length * 193 := Nat.mul_le_mul_right _ hi
 have hfit : i * 193 + 64 + ((D.lines[i]).now.map B).toArray.size ≤ cs.size := by rw [List.size_toArray, List.length_map, hlen]; omega
 have HOK := hq9 hok
 have HLEN := hq9 hlen
 have HS1 := hq9 hsz
 have HS2 := hq9 hsz2
 have HP := hq9 hp
 clear hok hlen hsz hsz2 hp hs hi2 hd hx
 go_enter Tryz.func34, Tryz.ntmps34
 go_wp2_with fail
 refine (HT.out).mono ?_
 rintro e w' ⟨rfl, rfl⟩
 go_wp2_with (first
  | ((with_reducible show wpList _ _ _ (Oper.mk (some 24) _ _ _ _ _ :: _) _ _); refine wpList_load_arr rfl 155 (.tmp 23) rfl cb (i * 193) rfl (D.lines[i]).now hnow 64 5 Tryz.underlying155 HS1.out ?_)
  | ((with_reducible show wpList _ _ _ (Oper.mk none _ _ _ _ _ :: _) _ _); refine wpList_store_blk rfl 155 (.tmp 26) (.tmp 24) rfl cb (i * 193 + 64) ((D.lines[i]).now.map B).toArray rfl rfl 157 cs hb hfit HS2.out (all_B _) ?_; intro w2 hb2 ho2 hs2; have hd2 : DevAt w2 g cb cap { D with lines := D.lines.set i { D.lines[i] with kept := (D.lines[i]).now } } := HD.out.write hi (o := 64) (vs := (D.lines[i]).now.map B) (by rw [List.length_map, HLEN.out]; omega) (cells_kept _ HOK.out _ HLEN.out) ⟨HOK.out.1, HOK.out.1, HOK.out.2.2⟩ cs HP.out hb2 ho2; have hc2 := hd2.cell 0; have hsc := hd2.sentCell (i := i) (by simpa using hi); have hfz := hd2.frozen2 (i * 193 + 192)))
 have hsw := IsDev.setSent hd2 (i := i) (by simpa using hi) false
 have hl2 : ({ { D with lines := D.lines.set i { D.lines[i] with kept := (D.lines[i]).now } } with lines := (D.lines.set i { D.lines[i] with kept := (D.lines[i]).now }).set i { ((D.lines.set i { D.lines[i] with kept := (D.lines[i]).now })[i]'(by simpa using hi)) with sent := false } } : Dev) = { D with lines := D.lines.set i (backL (D.lines[i])) } := by
  simp [backL]
 have hd3 := hsw.1
 rw [hl2] at hd3
 have hc3 := hd3.cell 4
 have hf3 := hd3.frozen1 4
 have hcnt := IsDev.count (D' := backD D i (D.lines[i])) hd3 4 (wrap64 (D.backs + 1)) rfl (by unfold backD headOf; simp)
 have HCN := hq9 hcnt
 have HO2 := hq9 (ho2.trans hsw.2 (by simp))
 clear hcnt hd2 hb2 ho2 hc2 hsc hfz hsw hl2 hd3 hb
 refine (int64_Add g 4 D.backs _ hc3 hf3).mono ?_
 rintro e w3 ⟨rfl, rfl⟩
 go_wp2
 go_ret
 exact ⟨rfl, HCN.out.1, (HO2.out.mono (by simp)).trans HCN.out.2 (by simp)⟩
end Go.Proofs.YtlggichakafkiaaGreat
namespace Go.Proofs.YtlggichakafkiaaGreat
open Go.RowKit Go.Proofs.FuMem Go.Proofs.FuNvm Go.Proofs.FuCode
set_option maxRecDepth 100000
def upTo (f : Nat → Line → Line) (L : List Line) (i : Nat) : List Line := L.mapIdx fun j x => if j < i then f j x else x
theorem upTo_length (f : Nat → Line → Line) (L : List Line) (i : Nat) : (upTo f L i).length = L.length := by simp [upTo]
theorem upTo_zero (f : Nat → Line → Line) (L : List Line) : upTo f L 0 = L := by
 apply List.ext_getElem
 ·simp [upTo]
 ·intro i h1 h2
  simp [upTo]
theorem upTo_all (f : Nat → Line → Line) (L : List Line) : upTo f L L.length = L.mapIdx f := by
 apply List.ext_getElem
 ·simp [upTo]
 ·intro i h1 h2
  simp only [upTo_length] at h1
  simp [upTo, h1]
theorem upTo_get (f : Nat → Line → Line) (L : List Line) (i : Nat) (hi : i < L.length) : (upTo f L i)[i]? = some L[i] := by
 simp [upTo, List.getElem?_eq_getElem hi]
theorem upTo_succ (f : Nat → Line → Line) (L : List Line) (i : Nat) (hi : i < L.length) : (upTo f L i).set i (f i L[i]) = upTo f L (i + 1) := by
 apply List.ext_getElem
 ·simp [upTo]
 ·intro j h1 h2
  simp only [List.getElem_set, upTo, List.getElem_mapIdx]
  by_cases e : i = j
  ·subst e
   simp
  ·rw [if_neg e]
   by_cases h : j < i
   ·rw [if_pos h, if_pos (by omega)]
   ·rw [if_neg h, if_neg (by omega)]
theorem upTo_keep (f : Nat → Line → Line) (L : List Line) (i : Nat) (hi : i < L.length) (h : f i L[i] = L[i]) : upTo f L i = upTo f L (i + 1) := by
 rw [← upTo_succ f L i hi, h]
 have := upTo_get f L i hi
 obtain ⟨h1, h2⟩ := List.getElem?_eq_some_iff.1 this
 rw [← h2]
 exact (List.set_getElem_self h1).symm
def fenceL (x : Line) : Line := if x.sent = true then { x with kept := x.way, sent := false } else x
def fenceD (D : Dev) : Dev := { D with lines := D.lines.map fenceL, fences := wrap64 (D.fences + 1) }
theorem mapIdx_map (f : Line → Line) (L : List Line) : L.mapIdx (fun _ x => f x) = L.map f := by
 apply List.ext_getElem
 ·simp
 ·intro i h1 h2
  simp
set_option maxHeartbeats 1000000 in
theorem nvm_Fence (g cb cap : Nat) (D : Dev) (w : World) (hd : DevAt w g cb cap D) :
  Calls Tryz.prog 179 #[.pointer (some ⟨g, 0, none⟩)] w fun e w' => e = .returned (.int .i64 0) ∧ DevAt w' g cb cap (fenceD D) ∧ Only [g, cb] w w' := by
 have hc : w.cell? ⟨g, 0, none⟩ = some (.slice (some ⟨cb, 0, none⟩) D.lines.length cap) := hd.cell 0
 have hf := hd.few
 have HD := hq9 hd
 clear hd
 obtain ⟨m, hm⟩ : ∃ m, m = D.lines.length := ⟨_, rfl⟩
 rw [← hm] at hc hf
 have HM := hq9 hm
 clear hm
 go_enter Tryz.func179, Tryz.ntmps179
 go_wp2
 go_loopw [3, 4, 12] (fun _ _ i wr => ∃ k : Nat, k ≤ m ∧ i = .int .i64 k ∧ DevAt wr g cb cap { D with lines := upTo (fun _ x => fenceL x) D.lines k } ∧ Only [g, cb] w wr) (fun _ _ i _ => m - (intOf i).toNat)
 case atStart => exact ⟨0, Nat.zero_le _, rfl, by rw [upTo_zero]; exact HD.out, Only.refl _ _⟩
 case round =>
  obtain ⟨k, hk, rfl, hd, on⟩ := hrel
  have hcr := hd.cell 0
  have hcr0 : wr.cell? ⟨g, 0, none⟩ = some (.slice (some ⟨cb, 0, none⟩) m cap) := by
   rw [hcr]
   simp [headOf, upTo_length, HM.out]
  clear hcr
  by_cases hlt : k < m
  ·have hkl : k < D.lines.length := by rw [← HM.out]; exact hlt
   have hkl2 : k < (upTo (fun _ x => fenceL x) D.lines k).length := by rw [upTo_length]; exact hkl
   obtain ⟨hq1, hq2⟩ := List.getElem?_eq_some_iff.1 (upTo_get (fun _ x => fenceL x) D.lines k hkl)
   have hsc := hd.sentCell (i := k) hkl2
   simp only [hq2] at hsc
   by_cases hsent : (D.lines[k]).sent = true
   ·rw [hsent] at hsc
    have hok := HD.out.ok.get hkl
    have hlen := hok.2.2
    have hway := hd.way (i := k) hkl2
    simp only [hq2] at hway
    rw [← hlen] at hway
    have hsz : (Tryz.prog.info? 155).map (·.size) = some (D.lines[k]).way.length := by rw [hlen]; exact lineSize
    have hsz2 : (Tryz.prog.info? 155).map (·.size) = some ((D.lines[k]).way.map B).toArray.size := by rw [List.size_toArray, List.length_map, hlen]; exact lineSize
    obtain ⟨cs, hb, hp⟩ := hd.body
    have hs := body_size hd.ok hp
    have hi2 : (k + 1) * 193 ≤ (upTo (fun _ x => fenceL x) D.lines k).length * 193 := Nat.mul_le_mul_right _ hkl2
    have hfit : k * 193 + 64 + ((D.lines[k]).way.map B).toArray.size ≤ cs.size := by rw [List.size_toArray, List.length_map, hlen]; simp only at hs; omega
    have hsucc := upTo_succ (fun _ x => fenceL x) D.lines k hkl
    have hfl : fenceL (D.lines[k]) = { D.lines[k] with kept := (D.lines[k]).way, sent := false } := by unfold fenceL; rw [if_pos hsent]
    have HOK := hq9 hok
    have HLEN := hq9 hlen
    have HS1 := hq9 hsz
    have HS2 := hq9 hsz2
    have HP := hq9 hp
    have HDR := hq9 hd
    have ON := hq9 on
    have HQ := hq9 hq2
    have HSU := hq9 hsucc
    have HFL := hq9 hfl
    clear hok hlen hsz hsz2 hp hs hi2 hd on hq2 hsucc hfl hsent
    go_wp2_with (first
     | ((with_reducible show wpList _ _ _ (Oper.mk (some 30) _ _ _ _ _ :: _) _ _); refine wpList_load_arr rfl 155 (.tmp 29) rfl cb (k * 193 + 128) rfl (D.lines[k]).way hway 64 5 Tryz.underlying155 HS1.out ?_)
     | ((with_reducible show wpList _ _ _ (Oper.mk none _ _ _ _ _ :: _) _ _); refine wpList_store_blk rfl 155 (.tmp 32) (.tmp 30) rfl cb (k * 193 + 64) ((D.lines[k]).way.map B).toArray rfl rfl 157 cs hb hfit HS2.out (all_B _) ?_; intro w2 hb2 ho2 hs2; have hd2 := HDR.out.write hkl2 (o := 64) (vs := (D.lines[k]).way.map B) (y := { D.lines[k] with kept := (D.lines[k]).way }) (by rw [List.length_map, HLEN.out]; omega) (by rw [show ((upTo (fun _ x => fenceL x) D.lines k)[k]'hkl2) = D.lines[k] from HQ.out]; exact cells_kept _ HOK.out _ HLEN.out) ⟨HOK.out.1, HOK.out.2.2, HOK.out.2.2⟩ cs HP.out hb2 ho2; have hsc := hd2.sentCell (i := k) (by simpa using hkl2); have hfz := hd2.frozen2 (k * 193 + 192); simp only [List.getElem_set_self] at hsc))
    have hsw := IsDev.setSent hd2 (i := k) (by simpa using hkl2) false
    have he : ∀ D' : Dev, D' = { D with lines := upTo (fun _ x => fenceL x) D.lines (k + 1) } → DevAt (w2.setCell ⟨cb, k * 193 + 192, none⟩ (.bool false)) g cb cap D' → DevAt (w2.setCell ⟨cb, k * 193 + 192, none⟩ (.bool false)) g cb cap { D with lines := upTo (fun _ x => fenceL x) D.lines (k + 1) } := by
     rintro D' rfl h
     exact h
    have hd3 := he _ (by
     rw [← HSU.out, HFL.out]
     simp) hsw.1
    have HD3 := hq9 hd3
    have ON3 := hq9 (ON.out.trans (ho2.trans hsw.2 (T := [cb]) (by simp)) (by simp))
    clear hd3 he hsw hd2 hb2 ho2 hb hway
    go_roundw
    case rel => exact ⟨k + 1, by omega, by go_num, HD3.out, ON3.out⟩
    case measure => simp [intOf]; omega
   ·have hs0 : (D.lines[k]).sent = false := by simpa using hsent
    rw [hs0] at hsc
    have hkeep := upTo_keep (fun _ x => fenceL x) D.lines k hkl (by unfold fenceL; rw [if_neg hsent])
    rw [hkeep] at hd
    have HD2 := hq9 hd
    have ON := hq9 on
    clear hd on hkeep hsent hs0 hq2
    go_wp2
    go_roundw
    case rel => exact ⟨k + 1, by omega, by go_num, HD2.out, ON.out⟩
    case measure => simp [intOf]; omega
  ·obtain rfl : k = m := by omega
   have hall : upTo (fun _ x => fenceL x) D.lines k = D.lines.map fenceL := by rw [HM.out, upTo_all, mapIdx_map]
   rw [hall] at hd
   have hc3 := hd.cell 3
   have hf3 := hd.frozen1 3
   have hcnt := IsDev.count (D' := fenceD D) hd 3 (wrap64 (D.fences + 1)) rfl (by unfold fenceD headOf; simp)
   have HCN := hq9 hcnt
   have ON := hq9 on
   clear hd on hall hcnt
   go_wp2_with fail
   refine (int64_Add g 3 D.fences _ hc3 hf3).mono ?_
   rintro e w3 ⟨rfl, rfl⟩
   go_wp2
   go_ret
   exact ⟨rfl, HCN.out.1, ON.out.trans HCN.out.2 (by simp)⟩
end Go.Proofs.YtlggichakafkiaaGreat
namespace Go.Proofs.YtlggichakafkiaaGreat
open Go.RowKit Go.Proofs.FuMem Go.Proofs.FuNvm Go.Proofs.FuCode
set_option maxRecDepth 100000
theorem cellSize : (Tryz.prog.info? 157).map (·.size) = some 193 := by kernel_rfl
theorem lineGuard : Tryz.prog.eqGuardType Tryz.prog.depth 155 = false := by kernel_rfl
theorem neq_line (l k : List UInt8) (hl : l.length = 64) (hk : k.length = 64) (w : World) : (binOp .neq 155 (arrV l) (arrV k)).run Tryz.prog w = .ok (.bool (l != k)) w := by
 obtain ⟨i0, hi, hz0, hz1, hz2⟩ := info_parts Tryz.byteInfo
 exact run_neq_arr Tryz.underlying155 Tryz.underlying5 i0 hi hz1 l k hl hk w
theorem line_new (w : World) (x : Line) (h : x.Ok) : Bs (w.alloc (.cells (cellsOf x).toArray 157)) (some ⟨w.heap.size, 0, none⟩) x.now.length x.now ∧ Bs (w.alloc (.cells (cellsOf x).toArray 157)) (some ⟨w.heap.size, 64, none⟩) x.kept.length x.kept ∧
  (w.alloc (.cells (cellsOf x).toArray 157)).cell? ⟨w.heap.size, 192, none⟩ = some (.bool x.sent) := by
 obtain ⟨h1, h2, h3⟩ := h
 have hb := Blk.new w 157 (cellsOf x).toArray
 have hlen : (cellsOf x).length = 193 := cellsOf_length ⟨h1, h2, h3⟩
 refine ⟨Sl.of_blk hb 0 ?_ (by simp; omega), Sl.of_blk hb 64 ?_ (by simp; omega), ?_⟩
 ·unfold cellsOf
  rw [List.drop_zero, List.append_assoc, List.append_assoc]
  exact (List.take_left' (by simp)).symm
 ·unfold cellsOf
  have e : (x.now.map B ++ x.kept.map B ++ x.way.map B ++ [Value.bool x.sent]).drop 64 = x.kept.map B ++ (x.way.map B ++ [.bool x.sent]) := by
   rw [List.append_assoc, List.append_assoc]
   exact List.drop_left' (by simp [h1])
  rw [e]
  exact (List.take_left' (by simp)).symm
 ·rw [hb.cell, List.getElem?_toArray]
  unfold cellsOf
  rw [List.getElem?_append_right (by simp [h1, h2, h3])]
  simp [h1, h2, h3]
theorem cell_loose (x : Line) (h : x.Ok) (w : World) :
  Calls Tryz.prog 74 #[.agg (cellsOf x).toArray] w fun e w' => e = .returned (.bool (x.now != x.kept)) ∧ Only [] w w' := by
 have hln := line_new w x h
 have hq := neq_line x.now x.kept h.1 h.2.1
 have hg := fun (a b : Operand) (w : World) => eqGuard_arr (P := Tryz.prog) lineGuard .neq a b x.now x.kept w
 have s1 : (Tryz.prog.info? 155).map (·.size) = some x.now.length := by rw [h.1]; exact lineSize
 have s2 : (Tryz.prog.info? 155).map (·.size) = some x.kept.length := by rw [h.2.1]; exact lineSize
 have HL := hq9 hln
 have S1 := hq9 s1
 have S2 := hq9 s2
 clear hln s1 s2 h
 generalize cellsOf x = cs at *
 go_enter Tryz.func74, Tryz.ntmps74
 go_wp2_with (first
  | ((with_reducible show wpList _ _ _ (Oper.mk (some 4) _ _ _ _ _ :: _) _ _); refine wpList_load_arr rfl 155 (.tmp 3) rfl w.heap.size 0 rfl x.now HL.out.1 64 5 Tryz.underlying155 S1.out ?_)
  | ((with_reducible show wpList _ _ _ (Oper.mk (some 6) _ _ _ _ _ :: _) _ _); refine wpList_load_arr rfl 155 (.tmp 5) rfl w.heap.size 64 rfl x.kept HL.out.2.1 64 5 Tryz.underlying155 S2.out ?_))
 go_ret
 exact ⟨rfl, (Only.refl _ _).alloc _⟩
theorem wpList_load_line {P : Program} {w : World} {ops : Array Oper} {rest : List Oper} {o : Oper} {a : Act} {Q : Exit → Act → World → Prop} (hgd : o.guard = none) (T : TypeId) (y : Operand) (ho : o.op = .load T y) (b off : Nat) (hx : a.eval y = .pointer (some ⟨b, off, none⟩)) (x : Line)
  (hc : Sl w (some ⟨b, off, none⟩) 193 (cellsOf x)) (d : TypeDesc) (hu : P.underlying T = some d) (hd : d.isRow = true) (hi : (P.info? T).map (·.size) = some (cellsOf x).length)
  (h : wpList P ops Q rest (a.put o.dst (.agg (cellsOf x).toArray)) w) : wpList P ops Q (o :: rest) a w :=
 wpList_load_mid hgd T y ho b off hx (cellsOf x) d (Sl.range hc) hu hd hi h
theorem IsDev.whole {tD tC : TypeId} {w : World} {g cb cap : Nat} {D : Dev} (h : IsDev tD tC w g cb cap D) {i : Nat} (hi : i < D.lines.length) : Sl w (some ⟨cb, i * 193, none⟩) 193 (cellsOf D.lines[i]) := by
 have := h.sl hi (o := 0) (m := 193) (by omega)
 rw [List.drop_zero, List.take_of_length_le (by rw [cellsOf_length (h.ok.get hi)]; exact Nat.le_refl _)] at this
 exact this
end Go.Proofs.YtlggichakafkiaaGreat
namespace Go.Proofs.YtlggichakafkiaaGreat
open Go.RowKit Go.Proofs.FuMem Go.Proofs.FuNvm Go.Proofs.FuCode
set_option maxRecDepth 100000
theorem append_ownB {P : Program} (w : World) {w0 : World} {T : List Nat} (on : Only T w0 w) (t ty e : TypeId) (i : TypeInfo) (z : Value) (bytes : Nat) (ht : P.underlying t = some (.slice e)) (hi : P.info? e = some i) (hz : i.zero = some z)
  (hsize : i.size = 1) (hby : i.bytes = bytes) (hzs : z.cells.size = 1)
  (v : Value) (n : Nat) (xs : List Value) (hown : w.ownsRow w0.heap.size e 1 v n xs)
  (A : Option Addr) (m c : Nat) (news : List Value) (hr : Sl w A m news) (h1 : ∀ u ∈ news, u.oneCell' = true)
  (h63 : n + m ≤ maxLen) (hbytes : (n + m) * bytes ≤ 140737488355328) :
  ∃ A' c' w', (Builtin.append_ #[t, t] ty #[v, .slice A m c]).run P w = .ok (.slice A' (n + m) c') w' ∧ w'.ownsRow w0.heap.size e 1 (.slice A' (n + m) c') (n + m) (xs ++ news) ∧
   Only T w0 w' ∧ Below w0.heap.size w w' := by
 obtain ⟨v', w', hrun, h2, h3, _⟩ := run_append_sl (P := P) w w0.heap.size t ty e i z bytes ht hi hz hsize hby hzs v n xs hown A m c news hr h1 h63 hbytes on.size
 obtain ⟨A', c', rfl, _, _⟩ := own_slice h2
 have hb : ∀ k, k < w0.heap.size → w'.heap[k]? = w.heap[k]? := fun k hk => h3.block k (Nat.lt_of_lt_of_le hk on.size) (fun e => by have := hown.lt k e.symm; omega)
 refine ⟨A', c', w', hrun, h2, ⟨h3.os.trans on.os, h3.tape.trans on.tape, h3.output.trans on.output, Nat.le_trans on.size h3.size, fun k hk hn => (hb k hk).trans (on.block k hk hn)⟩, ⟨h3.os, h3.tape, h3.output, h3.size, hb⟩⟩
theorem IsDev.below {tD tC : TypeId} {w w' : World} {g cb cap B : Nat} {D : Dev} (h : IsDev tD tC w g cb cap D) (hb : Below B w w') (h1 : g < B) (h2 : cb < B) : IsDev tD tC w' g cb cap D :=
 ⟨(hb.block g h1).trans h.head, let ⟨cs, hbl, hp⟩ := h.body; ⟨cs, (hb.block cb h2).trans hbl, hp⟩, h.ne, h.ok, h.few, h.cap_le⟩
theorem IsDev.ready {tD tC : TypeId} {w : World} {g cb cap : Nat} {D : Dev} (h : IsDev tD tC w g cb cap D) {i : Nat} (hi : i < D.lines.length) :
  ∃ cs, Blk w cb tC cs ∧ (∀ (o : Nat) (l : List UInt8), l.length = 64 → o + 64 ≤ 193 → i * 193 + o + (l.map B).toArray.size ≤ cs.size) ∧
   ∀ (o : Nat) (l : List UInt8) (y : Line), o + l.length ≤ 193 → cellsOf y = (cellsOf D.lines[i]).take o ++ l.map B ++ (cellsOf D.lines[i]).drop (o + (l.map B).length) → y.Ok →
    ∀ w', Blk w' cb tC (FuMem.splice cs (i * 193 + o) (l.map B).toArray.toList) → Only [cb] w w' → IsDev tD tC w' g cb cap { D with lines := D.lines.set i y } := by
 obtain ⟨cs, hb, hp⟩ := h.body
 have hs := body_size h.ok hp
 have hi2 : (i + 1) * 193 ≤ D.lines.length * 193 := Nat.mul_le_mul_right _ hi
 refine ⟨cs, hb, fun o l hl ho => ?_, fun o l y ho hy hyo w' hb' on => ?_⟩
 ·rw [List.size_toArray, List.length_map, hl]
  omega
 ·exact h.write hi (o := o) (vs := l.map B) (by rw [List.length_map]; exact ho) hy hyo cs hp hb' on
def isLost (keep : List Int) (i : Nat) (x : Line) : Bool := (x.now != x.kept) && !(decide ((i : Int) ∈ keep))
def cutL (keep : List Int) (i : Nat) (x : Line) : Line :=
 if (x.now != x.kept) = true ∧ (i : Int) ∈ keep then { x with kept := x.now, sent := false } else { x with now := x.kept, sent := false }
def lostTo (keep : List Int) (L : List Line) (i : Nat) : List Int := ((List.range i).filter fun j => (L[j]?.map (isLost keep j)).getD false).map fun (j : Nat) => (j : Int)
theorem lostTo_succ (keep : List Int) (L : List Line) (i : Nat) (hi : i < L.length) : lostTo keep L (i + 1) = if isLost keep i L[i] = true then lostTo keep L i ++ [(i : Int)] else lostTo keep L i := by
 unfold lostTo
 rw [List.range_succ, List.filter_append, List.map_append]
 by_cases h : isLost keep i L[i] = true
 ·rw [if_pos h]
  simp [List.getElem?_eq_getElem hi, h]
 ·rw [if_neg h]
  simp [List.getElem?_eq_getElem hi, h]
theorem lostTo_length (keep : List Int) (L : List Line) (i : Nat) : (lostTo keep L i).length ≤ i := by
 unfold lostTo
 rw [List.length_map]
 exact Nat.le_trans (List.length_filter_le _ _) (by simp)
theorem is_only_pos {w w' : World} {S : List Nat} {A : Option Addr} {n : Nat} {l : List Int} (h : Is w A n l) (ho : Only S w w') (hs : 0 < n → ∀ b off s, A = some ⟨b, off, s⟩ → b ∉ S) : Is w' A n l := by
 rcases Nat.eq_zero_or_pos n with rfl | hp
 ·have := h.len
  obtain rfl : l = [] := List.length_eq_zero_iff.1 this
  exact Is.nil _ _
 ·exact h.only ho (hs hp)
def cutD (D : Dev) (keep : List Int) : Dev := { D with lines := D.lines.mapIdx (cutL keep), cuts := wrap64 (D.cuts + 1) }
set_option maxHeartbeats 2000000 in
theorem nvm_Cut (g cb cap : Nat) (D : Dev) (A : Option Addr) (an ac : Nat) (keep : List Int) (w : World) (hd : DevAt w g cb cap D) (hk : Is w A an keep) (han : an ≤ 1000000) (hsafe : 0 < an → ∀ b off s, A = some ⟨b, off, s⟩ → b ≠ g ∧ b ≠ cb) :
  Calls Tryz.prog 36 #[.pointer (some ⟨g, 0, none⟩), .slice A an ac] w fun e w' => ∃ A' c', e = .returned (.tuple #[.slice A' (lostTo keep D.lines D.lines.length).length c', .int .i64 0]) ∧
   w'.ownsRow w.heap.size 3 1 (.slice A' (lostTo keep D.lines D.lines.length).length c') (lostTo keep D.lines D.lines.length).length ((lostTo keep D.lines D.lines.length).map (.int .i64)) ∧ DevAt w' g cb cap (cutD D keep) ∧ Only [g, cb] w w' := by
 have hc : w.cell? ⟨g, 0, none⟩ = some (.slice (some ⟨cb, 0, none⟩) D.lines.length cap) := hd.cell 0
 have hf := hd.few
 have hg1 := hd.lt1
 have hg2 := hd.lt2
 have HD := hq9 hd
 have HK := hq9 hk
 have HSF := hq9 hsafe
 clear hd hk hsafe
 obtain ⟨m, hm⟩ : ∃ m, m = D.lines.length := ⟨_, rfl⟩
 rw [← hm] at hc hf ⊢
 have HM := hq9 hm
 clear hm
 obtain ⟨i0, hi, hz0, hz1, hz2⟩ := info_parts Tryz.intInfo
 have HI := hq9 hi
 have HZ0 := hq9 hz0
 have HZ1 := hq9 hz1
 have HZ2 := hq9 hz2
 clear hi hz0 hz1 hz2
 go_enter Tryz.func36, Tryz.ntmps36
 go_wp2
 go_loopw [6, 7, 8, 16] (fun v _ _ i wr => ∃ (k n : Nat), k ≤ m ∧ i = .int .i64 k ∧ n = (lostTo keep D.lines k).length ∧ wr.ownsRow w.heap.size 3 1 v n ((lostTo keep D.lines k).map (.int .i64)) ∧ DevAt wr g cb cap { D with lines := upTo (cutL keep) D.lines k } ∧ Only [g, cb] w wr) (fun _ _ _ i _ => m - (intOf i).toNat)
 case atStart => exact ⟨0, 0, Nat.zero_le _, rfl, rfl, own_nil _ _ _ _, by rw [upTo_zero]; exact HD.out, Only.refl _ _⟩
 case round =>
  obtain ⟨k, n, hk, rfl, hn, ho, hd, on⟩ := hrel
  have hnk := lostTo_length keep D.lines k
  have hc0 : wr.cell? ⟨g, 0, none⟩ = some (.slice (some ⟨cb, 0, none⟩) m cap) := by
   rw [hd.cell 0]
   simp [headOf, upTo_length, HM.out]
  by_cases hlt : k < m
  ·have hkl : k < D.lines.length := by rw [← HM.out]; exact hlt
   have hkl2 : k < (upTo (cutL keep) D.lines k).length := by rw [upTo_length]; exact hkl
   obtain ⟨hq1, hq2⟩ := List.getElem?_eq_some_iff.1 (upTo_get (cutL keep) D.lines k hkl)
   have hok := HD.out.ok.get hkl
   have hwh := IsDev.whole hd (i := k) hkl2
   simp only [hq2] at hwh
   have hsz : (Tryz.prog.info? 157).map (·.size) = some (cellsOf D.lines[k]).length := by rw [cellsOf_length hok]; exact cellSize
   have hkeepw := is_only_pos HK.out on (by intro hp b off s e hb; have := HSF.out hp b off s e; simp at hb; omega)
   have hsu := lostTo_succ keep D.lines k hkl
   have hup := upTo_succ (cutL keep) D.lines k hkl
   have HSZ := hq9 hsz
   have HOK := hq9 hok
   have HO := hq9 ho
   have ON := hq9 on
   have HN := hq9 hn
   have HDR := hq9 hd
   have HQ := hq9 hq2
   have HKW := hq9 hkeepw
   have HSU := hq9 hsu
   have HUP := hq9 hup
   clear hsz hok ho on hn hd hq2 hkeepw hsu hup
   have HCL := hq9 (fun w => cell_loose (D.lines[k]) HOK.out w)
   by_cases hp : ((D.lines[k]).now != (D.lines[k]).kept) = true
   ·by_cases hin : (k : Int) ∈ keep
    ·have HF := hq9 (show cutL keep k (D.lines[k]) = { D.lines[k] with kept := (D.lines[k]).now, sent := false } by unfold cutL; rw [if_pos ⟨hp, hin⟩])
     have HLK := hq9 (show isLost keep k (D.lines[k]) = false by unfold isLost; simp [hin])
     have hin' : decide ((k : Int) ∈ keep) = true := by simpa using hin
     clear hin
     go_wp2_with ((with_reducible show wpList _ _ _ (Oper.mk (some 27) _ _ _ _ _ :: _) _ _); refine wpList_load_line rfl 157 (.tmp 26) rfl cb (k * 193) rfl (D.lines[k]) hwh _ Tryz.underlying157 rfl HSZ.out ?_)
     refine (HCL.out wr).mono ?_
     rintro e w1 ⟨rfl, o1⟩
     have HD1 := hq9 (IsDev.only0 HDR.out o1)
     have HW1 := hq9 (own_only HO.out o1 (by simp))
     have ON1 := hq9 (ON.out.trans0 o1)
     have HK1 := hq9 (Is.only0 HKW.out o1)
     clear o1
     go_wp2_with fail
     refine (contains_ints A an ac keep k w1 HK1.out han).mono ?_
     rintro e w' ⟨rfl, rfl⟩
     obtain ⟨cs0, hb0, hfit0, hwr0⟩ := IsDev.ready HD1.out (i := k) (by simpa using hkl2)
     have hnow := IsDev.now HD1.out (i := k) (by simpa using hkl2)
     simp only [HQ.out] at hnow
     have hlen0 : (D.lines[k]).now.length = 64 := HOK.out.1
     rw [← hlen0] at hnow
     have HS10 := hq9 (show (Tryz.prog.info? 155).map (·.size) = some (D.lines[k]).now.length by rw [hlen0]; exact lineSize)
     have HS20 := hq9 (show (Tryz.prog.info? 155).map (·.size) = some ((D.lines[k]).now.map B).toArray.size by rw [List.size_toArray, List.length_map, hlen0]; exact lineSize)
     have hft0 := hfit0 64 ((D.lines[k]).now) hlen0 (by omega)
     have HWR0 := hq9 (hwr0 64 ((D.lines[k]).now) { D.lines[k] with kept := (D.lines[k]).now } (by rw [hlen0]; omega) (by simp only [HQ.out]; exact cells_kept _ HOK.out _ hlen0) ⟨hlen0, hlen0, HOK.out.2.2⟩)
     have HL0 := hq9 hlen0
     clear hlen0 hfit0 hwr0
     go_wp2_with (first
      | ((with_reducible show wpList _ _ _ (Oper.mk (some 36) _ _ _ _ _ :: _) _ _); refine wpList_load_arr rfl 155 (.tmp 35) rfl cb (k * 193) rfl (D.lines[k]).now hnow 64 5 Tryz.underlying155 HS10.out ?_)
      | ((with_reducible show wpList _ _ _ (Oper.mk none _ _ _ _ _ :: _) _ _); refine wpList_store_blk rfl 155 (.tmp 38) (.tmp 36) rfl cb (k * 193 + 64) ((D.lines[k]).now.map B).toArray rfl rfl 157 cs0 hb0 hft0 HS20.out (all_B _) ?_; intro w4 hb4 ho4 hs4)
      | ((with_reducible show wpList _ _ _ (Oper.mk (some 46) _ _ _ _ _ :: _) _ _); refine Hid.out ?_))
     have HD4 := hq9 (HWR0.out w4 hb4 ho4)
     have HW4 := hq9 (own_only HW1.out ho4 (by intro b hb2; have := World.ownsRow.lt HW1.out b hb2; simp; omega))
     have ON4 := hq9 (ON1.out.trans ho4 (by simp))
     have HOK4 := hq9 (show ({ D.lines[k] with kept := (D.lines[k]).now } : Line).Ok from ⟨HOK.out.1, HOK.out.1, HOK.out.2.2⟩)
     have hc4 : w4.cell? ⟨g, 0, none⟩ = some (.slice (some ⟨cb, 0, none⟩) m cap) := by
      rw [IsDev.cell HD4.out 0]
      simp [headOf, upTo_length, HM.out]
     clear hb4 ho4 hs4 hb0 hft0 hnow
     refine hq9 ?_
     obtain ⟨cs, hb, hfit, hwr⟩ := IsDev.ready HD4.out (i := k) (by simpa using hkl2)
     have hkpt := IsDev.kept HD4.out (i := k) (by simpa using hkl2)
     simp only [List.getElem_set_self] at hkpt
     have hlen : ((D.lines[k]).now).length = 64 := HOK4.out.2.1
     have hkpt' : Bs w4 (some ⟨cb, k * 193 + 64, none⟩) ((D.lines[k]).now).length ((D.lines[k]).now) := by rw [hlen]; exact hkpt
     have HS1 := hq9 (show (Tryz.prog.info? 155).map (·.size) = some ((D.lines[k]).now).length by rw [hlen]; exact lineSize)
     have HS2 := hq9 (show (Tryz.prog.info? 155).map (·.size) = some (((D.lines[k]).now).map B).toArray.size by rw [List.size_toArray, List.length_map, hlen]; exact lineSize)
     have hft := hfit 0 ((D.lines[k]).now) hlen (by omega)
     have HWR := hq9 (hwr 0 ((D.lines[k]).now) { ({ D.lines[k] with kept := (D.lines[k]).now } : Line) with now := (D.lines[k]).now } (by rw [hlen]; omega) (by simp only [List.getElem_set_self]; exact cells_now _ HOK4.out _ hlen) ⟨hlen, hlen, HOK4.out.2.2⟩)
     clear hkpt hlen hfit hwr
     go_wp2_with (first
      | ((with_reducible show wpList _ _ _ (Oper.mk (some 48) _ _ _ _ _ :: _) _ _); refine wpList_load_arr rfl 155 (.tmp 47) rfl cb (k * 193 + 64) rfl ((D.lines[k]).now) hkpt' 64 5 Tryz.underlying155 HS1.out ?_)
      | ((with_reducible show wpList _ _ _ (Oper.mk none _ _ _ _ _ :: _) _ _); refine wpList_store_blk rfl 155 (.tmp 50) (.tmp 48) rfl cb (k * 193 + 0) (((D.lines[k]).now).map B).toArray rfl rfl 157 cs hb hft HS2.out (all_B _) ?_; intro w5 hb5 ho5 hs5; have hd5 := HWR.out w5 hb5 ho5; have hsc := IsDev.sentCell hd5 (i := k) (by simpa using hkl2); have hfz := IsDev.frozen2 hd5 (k * 193 + 192); simp only [List.getElem_set_self] at hsc))
     have hsw := IsDev.setSent hd5 (i := k) (by simpa using hkl2) false
     have he : ∀ D' : Dev, D' = { D with lines := upTo (cutL keep) D.lines (k + 1) } → DevAt (w5.setCell ⟨cb, k * 193 + 192, none⟩ (.bool false)) g cb cap D' → DevAt (w5.setCell ⟨cb, k * 193 + 192, none⟩ (.bool false)) g cb cap { D with lines := upTo (cutL keep) D.lines (k + 1) } := by
      rintro D' rfl h
      exact h
     have HD3 := hq9 (he _ (by
      rw [← HUP.out, HF.out]
      simp) hsw.1)
     have hmv := ho5.trans hsw.2 (T := [cb]) (by simp)
     have HR3 := hq9 (own_only HW4.out hmv (by intro b hb2; have := World.ownsRow.lt HW4.out b hb2; simp; omega))
     have ON3 := hq9 (ON4.out.trans hmv (by simp))
     clear he hsw hd5 hb5 ho5 hb hkpt' hmv hsc hfz
     go_roundw
     case rel => exact ⟨k + 1, n, by omega, by go_num, by rw [HSU.out, HLK.out]; first | exact HN.out | (rw [if_pos rfl, List.length_append, HN.out]; rfl), by rw [HSU.out, HLK.out]; exact HR3.out, HD3.out, ON3.out⟩
     case measure => simp [intOf]; omega
    ·have HF := hq9 (show cutL keep k (D.lines[k]) = { D.lines[k] with now := (D.lines[k]).kept, sent := false } by unfold cutL; rw [if_neg (fun h => hin h.2)])
     have HLK := hq9 (show isLost keep k (D.lines[k]) = true by unfold isLost; simp [hp, hin])
     have hin' : decide ((k : Int) ∈ keep) = false := by simpa using hin
     clear hin
     go_wp2_with ((with_reducible show wpList _ _ _ (Oper.mk (some 27) _ _ _ _ _ :: _) _ _); refine wpList_load_line rfl 157 (.tmp 26) rfl cb (k * 193) rfl (D.lines[k]) hwh _ Tryz.underlying157 rfl HSZ.out ?_)
     refine (HCL.out wr).mono ?_
     rintro e w1 ⟨rfl, o1⟩
     have HD1 := hq9 (IsDev.only0 HDR.out o1)
     have HW1 := hq9 (own_only HO.out o1 (by simp))
     have ON1 := hq9 (ON.out.trans0 o1)
     have HK1 := hq9 (Is.only0 HKW.out o1)
     clear o1
     go_wp2_with fail
     refine (contains_ints A an ac keep k w1 HK1.out han).mono ?_
     rintro e w' ⟨rfl, rfl⟩
     obtain ⟨A2, c2, w2, hr, ho2, on2, bl2⟩ := append_ownB (P := Tryz.prog) (w1.alloc (.cells #[.int .i64 (k : Int)] 3)) (ON1.out.alloc _) 23 23 3 i0 _ 8 Tryz.underlying23 HI.out HZ0.out HZ1.out HZ2.out rfl _ n _ (HW1.out.alloc _) (some ⟨w1.heap.size, 0, none⟩) 1 1 [.int .i64 (k : Int)] (cell_new1 _ _ _) (ints_new1 _ _) (by have := HN.out; unfold maxLen; omega) (by have := HN.out; omega)
     rw [show (lostTo keep D.lines k).map (Value.int .i64) ++ [.int .i64 (k : Int)] = (lostTo keep D.lines k ++ [(k : Int)]).map (.int .i64) by simp] at ho2
     have HD2 := hq9 (IsDev.below (IsDev.only0 HD1.out ((Only.refl [] w1).alloc (.cells #[.int .i64 (k : Int)] 3))) bl2 hg1 hg2)
     have HW2 := hq9 ho2
     have ON2 := hq9 on2
     have hc2 : w2.cell? ⟨g, 0, none⟩ = some (.slice (some ⟨cb, 0, none⟩) m cap) := by
      rw [IsDev.cell HD2.out 0]
      simp [headOf, upTo_length, HM.out]
     clear ho2 on2 bl2
     obtain ⟨cs, hb, hfit, hwr⟩ := IsDev.ready HD2.out (i := k) (by simpa using hkl2)
     have hkpt := IsDev.kept HD2.out (i := k) (by simpa using hkl2)
     simp only [HQ.out] at hkpt
     have hlen : ((D.lines[k]).kept).length = 64 := HOK.out.2.1
     have hkpt' : Bs w2 (some ⟨cb, k * 193 + 64, none⟩) ((D.lines[k]).kept).length ((D.lines[k]).kept) := by rw [hlen]; exact hkpt
     have HS1 := hq9 (show (Tryz.prog.info? 155).map (·.size) = some ((D.lines[k]).kept).length by rw [hlen]; exact lineSize)
     have HS2 := hq9 (show (Tryz.prog.info? 155).map (·.size) = some (((D.lines[k]).kept).map B).toArray.size by rw [List.size_toArray, List.length_map, hlen]; exact lineSize)
     have hft := hfit 0 ((D.lines[k]).kept) hlen (by omega)
     have HWR := hq9 (hwr 0 ((D.lines[k]).kept) { D.lines[k] with now := (D.lines[k]).kept } (by rw [hlen]; omega) (by simp only [HQ.out]; exact cells_now _ HOK.out _ hlen) ⟨hlen, hlen, HOK.out.2.2⟩)
     clear hkpt hlen hfit hwr
     go_wp2_with (first
      | (at_builtin; refine wpList_append_run _ rfl (.tmp 39) (.tmp 41) 23 rfl _ _ rfl rfl _ _ hr ?_)
      | ((with_reducible show wpList _ _ _ (Oper.mk (some 48) _ _ _ _ _ :: _) _ _); refine wpList_load_arr rfl 155 (.tmp 47) rfl cb (k * 193 + 64) rfl ((D.lines[k]).kept) hkpt' 64 5 Tryz.underlying155 HS1.out ?_)
      | ((with_reducible show wpList _ _ _ (Oper.mk none _ _ _ _ _ :: _) _ _); refine wpList_store_blk rfl 155 (.tmp 50) (.tmp 48) rfl cb (k * 193 + 0) (((D.lines[k]).kept).map B).toArray rfl rfl 157 cs hb hft HS2.out (all_B _) ?_; intro w5 hb5 ho5 hs5; have hd5 := HWR.out w5 hb5 ho5; have hsc := IsDev.sentCell hd5 (i := k) (by simpa using hkl2); have hfz := IsDev.frozen2 hd5 (k * 193 + 192); simp only [List.getElem_set_self] at hsc))
     have hsw := IsDev.setSent hd5 (i := k) (by simpa using hkl2) false
     have he : ∀ D' : Dev, D' = { D with lines := upTo (cutL keep) D.lines (k + 1) } → DevAt (w5.setCell ⟨cb, k * 193 + 192, none⟩ (.bool false)) g cb cap D' → DevAt (w5.setCell ⟨cb, k * 193 + 192, none⟩ (.bool false)) g cb cap { D with lines := upTo (cutL keep) D.lines (k + 1) } := by
      rintro D' rfl h
      exact h
     have HD3 := hq9 (he _ (by
      rw [← HUP.out, HF.out]
      simp) hsw.1)
     have hmv := ho5.trans hsw.2 (T := [cb]) (by simp)
     have HR3 := hq9 (own_only HW2.out hmv (by intro b hb2; have := World.ownsRow.lt HW2.out b hb2; simp; omega))
     have ON3 := hq9 (ON2.out.trans hmv (by simp))
     clear he hsw hd5 hb5 ho5 hb hkpt' hmv hsc hfz
     go_roundw
     case rel => exact ⟨k + 1, n + 1, by omega, by go_num, by rw [HSU.out, HLK.out]; first | exact HN.out | (rw [if_pos rfl, List.length_append, HN.out]; rfl), by rw [HSU.out, HLK.out]; exact HR3.out, HD3.out, ON3.out⟩
     case measure => simp [intOf]; omega
   ·have hp0 : ((D.lines[k]).now != (D.lines[k]).kept) = false := by simpa using hp
    have HF := hq9 (show cutL keep k (D.lines[k]) = { D.lines[k] with now := (D.lines[k]).kept, sent := false } by unfold cutL; rw [if_neg (fun h => hp h.1)])
    have HLK := hq9 (show isLost keep k (D.lines[k]) = false by unfold isLost; rw [hp0]; rfl)
    clear hp
    go_wp2_with ((with_reducible show wpList _ _ _ (Oper.mk (some 27) _ _ _ _ _ :: _) _ _); refine wpList_load_line rfl 157 (.tmp 26) rfl cb (k * 193) rfl (D.lines[k]) hwh _ Tryz.underlying157 rfl HSZ.out ?_)
    refine (HCL.out wr).mono ?_
    rintro e w1 ⟨rfl, o1⟩
    have HD1 := hq9 (IsDev.only0 HDR.out o1)
    have HW1 := hq9 (own_only HO.out o1 (by simp))
    have ON1 := hq9 (ON.out.trans0 o1)
    have HK1 := hq9 (Is.only0 HKW.out o1)
    clear o1
    obtain ⟨cs, hb, hfit, hwr⟩ := IsDev.ready HD1.out (i := k) (by simpa using hkl2)
    have hkpt := IsDev.kept HD1.out (i := k) (by simpa using hkl2)
    simp only [HQ.out] at hkpt
    have hlen : ((D.lines[k]).kept).length = 64 := HOK.out.2.1
    have hkpt' : Bs w1 (some ⟨cb, k * 193 + 64, none⟩) ((D.lines[k]).kept).length ((D.lines[k]).kept) := by rw [hlen]; exact hkpt
    have HS1 := hq9 (show (Tryz.prog.info? 155).map (·.size) = some ((D.lines[k]).kept).length by rw [hlen]; exact lineSize)
    have HS2 := hq9 (show (Tryz.prog.info? 155).map (·.size) = some (((D.lines[k]).kept).map B).toArray.size by rw [List.size_toArray, List.length_map, hlen]; exact lineSize)
    have hft := hfit 0 ((D.lines[k]).kept) hlen (by omega)
    have HWR := hq9 (hwr 0 ((D.lines[k]).kept) { D.lines[k] with now := (D.lines[k]).kept } (by rw [hlen]; omega) (by simp only [HQ.out]; exact cells_now _ HOK.out _ hlen) ⟨hlen, hlen, HOK.out.2.2⟩)
    clear hkpt hlen hfit hwr
    go_wp2_with (first
     | ((with_reducible show wpList _ _ _ (Oper.mk (some 48) _ _ _ _ _ :: _) _ _); refine wpList_load_arr rfl 155 (.tmp 47) rfl cb (k * 193 + 64) rfl ((D.lines[k]).kept) hkpt' 64 5 Tryz.underlying155 HS1.out ?_)
     | ((with_reducible show wpList _ _ _ (Oper.mk none _ _ _ _ _ :: _) _ _); refine wpList_store_blk rfl 155 (.tmp 50) (.tmp 48) rfl cb (k * 193 + 0) (((D.lines[k]).kept).map B).toArray rfl rfl 157 cs hb hft HS2.out (all_B _) ?_; intro w5 hb5 ho5 hs5; have hd5 := HWR.out w5 hb5 ho5; have hsc := IsDev.sentCell hd5 (i := k) (by simpa using hkl2); have hfz := IsDev.frozen2 hd5 (k * 193 + 192); simp only [List.getElem_set_self] at hsc))
    have hsw := IsDev.setSent hd5 (i := k) (by simpa using hkl2) false
    have he : ∀ D' : Dev, D' = { D with lines := upTo (cutL keep) D.lines (k + 1) } → DevAt (w5.setCell ⟨cb, k * 193 + 192, none⟩ (.bool false)) g cb cap D' → DevAt (w5.setCell ⟨cb, k * 193 + 192, none⟩ (.bool false)) g cb cap { D with lines := upTo (cutL keep) D.lines (k + 1) } := by
     rintro D' rfl h
     exact h
    have HD3 := hq9 (he _ (by
     rw [← HUP.out, HF.out]
     simp) hsw.1)
    have hmv := ho5.trans hsw.2 (T := [cb]) (by simp)
    have HR3 := hq9 (own_only HW1.out hmv (by intro b hb2; have := World.ownsRow.lt HW1.out b hb2; simp; omega))
    have ON3 := hq9 (ON1.out.trans hmv (by simp))
    clear he hsw hd5 hb5 ho5 hb hkpt' hmv hsc hfz
    go_roundw
    case rel => exact ⟨k + 1, n, by omega, by go_num, by rw [HSU.out, HLK.out]; first | exact HN.out | (rw [if_pos rfl, List.length_append, HN.out]; rfl), by rw [HSU.out, HLK.out]; exact HR3.out, HD3.out, ON3.out⟩
    case measure => simp [intOf]; omega
  ·obtain rfl : k = m := by omega
   have hall : upTo (cutL keep) D.lines k = D.lines.mapIdx (cutL keep) := by rw [HM.out, upTo_all]
   rw [hall] at hd
   obtain ⟨A', c', rfl, _, _⟩ := own_slice ho
   subst hn
   have hc5 := hd.cell 5
   have hf5 := hd.frozen1 5
   have hcnt := IsDev.count (D' := cutD D keep) hd 5 (wrap64 (D.cuts + 1)) rfl (by unfold cutD headOf; simp)
   have HR5 := hq9 (own_only ho hcnt.2 (by intro b hb2; have := World.ownsRow.lt ho b hb2; simp; omega))
   have HCN := hq9 hcnt
   have ON := hq9 on
   clear hd on hall hcnt ho
   go_wp2_with fail
   refine (int64_Add g 5 D.cuts _ hc5 hf5).mono ?_
   rintro e w3 ⟨rfl, rfl⟩
   go_wp2
   go_ret2
   exact ⟨A', c', rfl, HR5.out, HCN.out.1, ON.out.trans HCN.out.2 (by simp)⟩
end Go.Proofs.YtlggichakafkiaaGreat
set_option maxRecDepth 100000
namespace Go.Proofs.FuNvm
open Go.RowKit Go.Proofs.FuMem
def noLine : Line := ⟨List.replicate 64 0, List.replicate 64 0, List.replicate 64 0, false⟩
theorem noLine_ok : noLine.Ok := ⟨rfl, rfl, rfl⟩
def newDev (n : Nat) : Dev := ⟨List.replicate n noLine, 0, 0, 0, 0, 0⟩
theorem madeCells_list (c : List Value) (n : Nat) (_hc : 0 < c.length) : madeCells c.toArray (n * c.length) = (List.replicate n c).flatten.toArray := by
 have h : ∀ n, (List.range (n * c.length)).map (fun i => c.toArray[i % c.toArray.size]!) = (List.replicate n c).flatten := by
  intro n
  induction n with
  | zero => simp
  | succ n ih =>
   rw [Nat.succ_mul, List.range_add, List.map_append, ih, List.replicate_succ', List.flatten_append]
   congr 1
   simp only [List.map_map, List.flatten_cons, List.flatten_nil, List.append_nil]
   apply List.ext_getElem
   ·simp
   ·intro i h1 h2
    simp only [List.getElem_map, List.getElem_range, Function.comp, List.size_toArray]
    have e : (n * c.length + i) % c.length = i := by rw [Nat.mul_comm, Nat.mul_add_mod, Nat.mod_eq_of_lt h2]
    rw [e]
    simp [h2]
 unfold madeCells
 rw [← h n]
 apply Array.ext'
 simp
theorem flat_replicate (n : Nat) (x : Line) : flat (List.replicate n x) = (List.replicate n (cellsOf x)).flatten := by
 unfold flat
 rw [List.flatMap_def, List.map_replicate]
theorem allOk_new (n : Nat) : AllOk (List.replicate n noLine) := fun x hx => by
 rw [(List.mem_replicate.mp hx).2]; exact noLine_ok
section
variable {P : Program} {w : World}
theorem make_lines (t e : TypeId) (i : TypeInfo) (z : Value) (ht : P.underlying t = some (.slice e)) (hi : P.info? e = some i) (hz : i.zero = some z) (hsize : i.size = 193) (hz1 : z.cells = (cellsOf noLine).toArray)
  (n : Nat) (hbytes : i.bytes * n ≤ 281474976710656) (h63 : n ≤ 9223372036854775807) :
  ∃ w', (Instr.makeSlice t (.int .i64 (n : Int)) (.int .i64 (n : Int))).run P w = .ok (.slice (some ⟨w.heap.size, 0, none⟩) n n) w' ∧
   Blk w' w.heap.size e (flat (List.replicate n noLine)).toArray ∧ Only [] w w' ∧ w'.heap.size = w.heap.size + 1 := by
 have hb : (i.bytes : Int) * (n : Int) ≤ 281474976710656 := by
  have h : ((i.bytes * n : Nat) : Int) ≤ 281474976710656 := by omega
  rwa [Int.natCast_mul] at h
 have hr := run_make (P := P) w t e i z ht hi hz .i64 .i64 n n (by omega) (by omega) hb (by omega)
 simp only [Int.toNat_natCast] at hr
 have hm := madeCells_list (cellsOf noLine) n (by rw [cellsOf_length noLine_ok]; decide)
 rw [cellsOf_length noLine_ok] at hm
 rw [hsize, hz1, hm, ← flat_replicate] at hr
 exact ⟨_, hr, Blk.new _ _ _, (Only.refl _ _).alloc _, by simp⟩
end
end Go.Proofs.FuNvm
namespace Go.Proofs.YtlggichakafkiaaGreat
open Go.RowKit Go.Proofs.FuMem Go.Proofs.FuNvm
theorem cellZero : ∃ i z, Tryz.prog.info? 157 = some i ∧ i.zero = some z ∧ i.size = 193 ∧ z.cells = (cellsOf noLine).toArray ∧ i.bytes = 193 := ⟨_, _, rfl, rfl, rfl, rfl, rfl⟩
set_option maxHeartbeats 1000000 in
theorem nvm_New (n : Nat) (w : World) (h1 : 1 ≤ n) (h2 : n ≤ 258) :
  Calls Tryz.prog 31 #[.int .i64 n] w fun e w' => ∃ g cb, e = .returned (.tuple #[.pointer (some ⟨g, 0, none⟩), .int .i64 0]) ∧ DevAt w' g cb n (newDev n) ∧ Only [] w w' ∧ w.heap.size ≤ g ∧ w.heap.size ≤ cb := by
 obtain ⟨ci, cz, hi, hz, hs, hc, hby⟩ := cellZero
 obtain ⟨w1, hr, hb, ho, hg⟩ := make_lines (P := Tryz.prog) (w := w) 143 157 ci cz rfl hi hz hs hc n (by rw [hby]; omega) (by omega)
 have HB := hq9 hb
 have HON := hq9 ho
 have HG := hq9 hg
 clear hb ho hg hi hz hc
 have hh1 : decide ((n : Int) < 1) = false := by go_num
 have hh2 : decide ((258 : Int) < (n : Int)) = false := by go_num
 go_enter Tryz.func31, Tryz.ntmps31
 go_wp2
 go_ret2
 have hal : Only [] w1 (w1.alloc (.cells (headOf w.heap.size n (newDev n)) 152)) := (Only.refl _ _).alloc _
 have hln : (newDev n).lines.length = n := List.length_replicate
 have hhd := Blk.new w1 152 (headOf w.heap.size n (newDev n))
 have hg2 := HG.out
 have he : headOf w.heap.size n (newDev n) = #[.slice (some ⟨w.heap.size, 0, none⟩) n n, .int .i64 0, .int .i64 0, .int .i64 0, .int .i64 0, .int .i64 0] := by
  unfold headOf
  rw [hln]
  rfl
 rw [he] at hal
 refine ⟨w1.heap.size, w.heap.size, rfl, ⟨?_, ⟨_, HB.out.only hal (by simp), ?_⟩, by omega, allOk_new n, by omega, by omega⟩, HON.out.trans0 hal, by omega, Nat.le_refl _⟩
 ·rw [he] at hhd ⊢
  exact hhd
 ·rw [hln]
  unfold newDev
  have := flat_length (allOk_new n)
  rw [List.length_replicate] at this
  exact List.take_of_length_le (by simp [this])
end Go.Proofs.YtlggichakafkiaaGreat
set_option maxRecDepth 100000
namespace Go.Proofs.YtlggichakafkiaaGreat
open Go.RowKit Go.Proofs.FuMem Go.Proofs.FuNvm Go.Proofs.FuCode
end Go.Proofs.YtlggichakafkiaaGreat
set_option maxRecDepth 100000
namespace Go.Proofs.FuNvm
open Go.RowKit Go.Proofs.FuMem
structure Deed where
 kind : Int
 line : Int
 pos : Int
 b : List UInt8
 keep : List Int
def lineOf (D : Dev) (i : Int) : Line := D.lines.getD i.toNat noLine
end Go.Proofs.FuNvm
namespace Go.Proofs.YtlggichakafkiaaGreat
open Go.ChangeShapes Go.WideShapes Go.ChangeAt Go.RowKit Go.Proofs.FuMem Go.Proofs.FuNvm Go.Proofs.FuCode Go.Deep
structure Holds where
 bA : Option Addr
 bn : Nat
 bc : Nat
 kA : Option Addr
 kn : Nat
 kc : Nat
structure DeedOk (w : World) (x : Deed) (s : Holds) : Prop where
 k1 : -9223372036854775808 ≤ x.kind ∧ x.kind ≤ 9223372036854775807
 k2 : -9223372036854775808 ≤ x.line ∧ x.line ≤ 9223372036854775807
 k3 : -9223372036854775808 ≤ x.pos ∧ x.pos ≤ 9223372036854775807
 bs : Bs w s.bA s.bn x.b
 is : Is w s.kA s.kn x.keep
 m1 : s.bn ≤ maxLen
 m2 : s.kn ≤ maxLen
theorem sl_blocks {w : World} {A : Option Addr} {n : Nat} {xs : List Value} (h : Sl w A n xs) (hn : 0 < n) : ∀ b off s, A = some ⟨b, off, s⟩ → b < w.heap.size := by
 intro b off s e
 obtain ⟨b', off', e', hc⟩ := Sl.at_ h hn
 rw [e'] at e
 cases e
 have hl : xs.length = n := h.1
 have := hc 0 (by omega)
 exact lt_of_cell this
end Go.Proofs.YtlggichakafkiaaGreat
set_option maxRecDepth 100000
namespace Go.Proofs.YtlggichakafkiaaGreat
open Go.RowKit Go.Proofs.FuMem Go.Proofs.FuNvm Go.Proofs.FuCode
instance (len : Nat) (line at_ n : Int) : Decidable (noPlace len line at_ n) := by unfold noPlace; infer_instance
def ansOf (p : Prop) [Decidable p] : Int := if p then 2 else 0
def store1 (D : Dev) (line pos : Int) (l : List UInt8) : Dev := if noPlace D.lines.length line pos l.length then D else storeD D line.toNat (lineOf D line) pos.toNat l
def flush1 (D : Dev) (line : Int) : Dev := if noPlace D.lines.length line 0 0 then D else flushD D line.toNat (lineOf D line)
def back1 (D : Dev) (line : Int) : Dev := if noPlace D.lines.length line 0 0 then D else backD D line.toNat (lineOf D line)
theorem lineOf_get {D : Dev} {i : Nat} (h : i < D.lines.length) : D.lines[i]? = some (lineOf D i) := by
 unfold lineOf
 rw [Int.toNat_natCast, List.getElem?_eq_getElem h]
 simp [List.getD, List.getElem?_eq_getElem h]
theorem nvm_Store_any (g cb cap : Nat) (D : Dev) (line pos : Int) (A : Option Addr) (n c : Nat) (l : List UInt8) (w : World) (hd : DevAt w g cb cap D) (hl : Bs w A n l) (hn : n ≤ maxLen) :
  Calls Tryz.prog 33 #[.pointer (some ⟨g, 0, none⟩), .int .i64 line, .int .i64 pos, .slice A n c] w fun e w' => e = .returned (.int .i64 (ansOf (noPlace D.lines.length line pos l.length))) ∧ DevAt w' g cb cap (store1 D line pos l) ∧ Only [g, cb] w w' := by
 have hlen : l.length = n := hl.len
 unfold ansOf store1
 rw [hlen]
 by_cases h : noPlace D.lines.length line pos n
 ·rw [if_pos h, if_pos h]
  refine (nvm_Store_no g cb cap D line pos A n c w hd hn h).mono ?_
  rintro e w' ⟨rfl, rfl⟩
  exact ⟨rfl, hd, Only.refl _ _⟩
 ·rw [if_neg h, if_neg h]
  have h' := h
  unfold noPlace at h'
  obtain ⟨i, rfl⟩ := Int.eq_ofNat_of_zero_le (show 0 ≤ line by omega)
  obtain ⟨a, rfl⟩ := Int.eq_ofNat_of_zero_le (show 0 ≤ pos by omega)
  rw [Int.toNat_natCast, Int.toNat_natCast]
  exact nvm_Store g cb cap D i a _ (lineOf_get (by omega)) A n c l w hd hl (by omega)
theorem nvm_Flush_any (g cb cap : Nat) (D : Dev) (line : Int) (w : World) (hd : DevAt w g cb cap D) :
  Calls Tryz.prog 178 #[.pointer (some ⟨g, 0, none⟩), .int .i64 line] w fun e w' => e = .returned (.int .i64 (ansOf (noPlace D.lines.length line 0 0))) ∧ DevAt w' g cb cap (flush1 D line) ∧ Only [g, cb] w w' := by
 unfold ansOf flush1
 by_cases h : noPlace D.lines.length line 0 0
 ·rw [if_pos h, if_pos h]
  refine (nvm_Flush_no g cb cap D line w hd h).mono ?_
  rintro e w' ⟨rfl, rfl⟩
  exact ⟨rfl, hd, Only.refl _ _⟩
 ·rw [if_neg h, if_neg h]
  have h' := h
  unfold noPlace at h'
  obtain ⟨i, rfl⟩ := Int.eq_ofNat_of_zero_le (show 0 ≤ line by omega)
  rw [Int.toNat_natCast]
  exact nvm_Flush g cb cap D i _ (lineOf_get (by omega)) w hd
theorem nvm_Back_any (g cb cap : Nat) (D : Dev) (line : Int) (w : World) (hd : DevAt w g cb cap D) :
  Calls Tryz.prog 34 #[.pointer (some ⟨g, 0, none⟩), .int .i64 line] w fun e w' => e = .returned (.int .i64 (ansOf (noPlace D.lines.length line 0 0))) ∧ DevAt w' g cb cap (back1 D line) ∧ Only [g, cb] w w' := by
 unfold ansOf back1
 by_cases h : noPlace D.lines.length line 0 0
 ·rw [if_pos h, if_pos h]
  refine (nvm_Back_no g cb cap D line w hd h).mono ?_
  rintro e w' ⟨rfl, rfl⟩
  exact ⟨rfl, hd, Only.refl _ _⟩
 ·rw [if_neg h, if_neg h]
  have h' := h
  unfold noPlace at h'
  obtain ⟨i, rfl⟩ := Int.eq_ofNat_of_zero_le (show 0 ≤ line by omega)
  rw [Int.toNat_natCast]
  exact nvm_Back g cb cap D i _ (lineOf_get (by omega)) w hd
end Go.Proofs.YtlggichakafkiaaGreat
namespace Go.Proofs.YtlggichakafkiaaGreat
open Go.RowKit Go.Proofs.FuMem Go.Proofs.FuCode Go.Proofs.FuCrc Go.Proofs.FuGeom
set_option maxRecDepth 100000
theorem rowSize : (Tryz.prog.info? 236).map (·.size) = some 64 := by kernel_rfl
theorem rowZero : (Tryz.prog.info? 236).map (·.zero) = some (some (arrV (zer 64))) := by kernel_rfl
theorem rowGuard : Tryz.prog.eqGuardType Tryz.prog.depth 236 = false := by kernel_rfl
theorem byteSize : (Tryz.prog.info? 5).map (·.size) = some 1 := by kernel_rfl
set_option maxHeartbeats 400000 in
theorem geom_sealed (A : Option Addr) (c : Nat) (l : List UInt8) (w : World) (h : Bs w A 9 l) :
  Calls Tryz.prog 166 #[.slice A 9 c] w fun e w' => e = .returned (arrV (sgn l)) ∧ Only [] w w' := by
 have HB := hq9 h
 have HL := hq9 h.len
 clear h
 have hc := crc_lt l
 have hlen : (l ++ zer 55).length = 64 := by rw [List.length_append, HL.out, zer_length]
 have hput : ∀ (w' : World) (b : Nat), Bs w' (some ⟨b, 0, none⟩) 64 (l ++ zer 55) → Calls Tryz.prog 165 #[.slice (some ⟨b, 0, none⟩) 64 64, .int .i64 9, .int .i64 4, .int .u64 (crc l)] w' fun e w'' => ∃ A c, e = .returned (.tuple #[.slice A 64 c, .int .i64 0]) ∧ Bs w'' A 64 (sgn l) ∧ Only [] w' w'' := fun w' b hb => by
  have h1 := code_Put _ 64 64 (l ++ zer 55) 9 4 (crc l) w' hb (by omega) (by omega) (by omega) (by omega)
  rw [put_sgn HL.out] at h1
  refine h1.mono ?_
  rintro e w'' ⟨_, rfl, A1, c1, rfl, ho, on⟩
  rw [sgn_length HL.out] at ho ⊢
  exact ⟨A1, c1, rfl, bs_own ho, on⟩
 have HP := hq9 hput
 clear hput
 go_enter Tryz.func166, Tryz.ntmps166
 go_wp2_with (first
  | ((with_reducible show wpList _ _ _ (Oper.mk (some 2) _ _ _ _ _ :: _) _ _); refine wpList_alloc_arr rfl 236 rfl _ rowZero ?_; intro w1 hb1 ho1 hs1)
  | ((with_reducible show wpList _ _ _ (Oper.mk (some 3) _ _ _ _ _ :: _) _ _); refine wpList_alloc_arr rfl 236 rfl _ rowZero ?_; intro w2 hb2 ho2 hs2; rw [hs1] at hb2 hs2)
  | ((with_reducible show wpList _ _ _ (Oper.mk (some 8) _ _ _ _ _ :: _) _ _); refine wpList_copy_arr rfl (.tmp 6) (.tmp 7) 71 71 rfl 5 Tryz.underlying71 byteSize _ 0 64 64 A 9 c rfl rfl _ _ hb2 (by simp [zer]) l ((HB.out.only0 ho1).only0 ho2) ?_; intro w3 hb3 ho3 hs3))
 have e3 : over (zer 64) 0 (l.take 64) = l ++ zer 55 := by
  rw [List.take_of_length_le (by rw [HL.out]; omega)]
  unfold over
  rw [HL.out]
  simp [zer]
 rw [e3] at hb3
 clear e3
 have hb1' := (hb1.only ho2 (by simp)).only ho3 (by simp)
 have hbl := ((HB.out.only0 ho1).only0 ho2).only ho3 (by
  intro b off s e hb
  rw [List.mem_singleton] at hb
  subst hb
  exact absurd (Sl.lt HB.out (by omega) e) (by omega))
 have on3 := (ho1.trans0 ho2).trans ho3 (by simp)
 have B3 := hb3.bs
 rw [hlen] at B3
 have HB3 := hq9 B3
 have HA3 := hq9 hb3
 have HA1 := hq9 hb1'
 have HBL := hq9 hbl
 have HO3 := hq9 on3
 clear hb1 ho1 hb2 ho2 hb3 ho3 hb1' hbl on3 hlen B3
 have hw64 : IntKind.u64.wrap ((crc l : Nat) : Int) = (crc l : Int) := by rw [IntKind.wrap_u64]; omega
 go_region_with (first
  | (go_at_call 203; refine (sum_Sum A 9 c l _ (by exact HBL.out.only0 (Only.refl _ _).drew) (by decide)).mono ?_; rintro e w' ⟨rfl, rfl⟩)
  | (go_at_call 165; refine (HP.out _ _ (by exact HB3.out.only0 (Only.refl _ _).drew)).mono ?_; rintro e w4 ⟨A4, c4, rfl, b4, o4⟩))
 have o34 := (Only.refl [] w3).drew.trans0 o4
 have a4 := HA3.out.only o34 (by simp)
 have a4' := HA1.out.only o34 (by simp)
 have on4 := HO3.out.trans0 o34
 have hbs := sgn_length HL.out
 have h4s := o34.size
 have HA4 := hq9 a4
 have HA4' := hq9 a4'
 have HN4 := hq9 on4
 have HB4 := hq9 b4
 have HLS := hq9 hbs
 clear o34 a4 a4' on4 hbs b4 o4 hw64 HA3 HA1 HO3 HBL HB3 HP
 have X1 := HA4.out
 have X2 := HB4.out
 have hl64 : (l ++ zer 55).length = 64 := by rw [List.length_append, HL.out, zer_length]
 have X3 : 0 + 64 ≤ (l ++ zer 55).length := by omega
 have X4 : (Tryz.prog.info? 236).map (·.size) = some (sgn l).length := by rw [HLS.out]; exact rowSize
 have X5 : (zer 64).length = (sgn l).length := by rw [HLS.out]; simp [zer]
 have X6 := over_all (sgn l) (l ++ zer 55) 64 HLS.out hl64
 have H6 := hq9 X6
 have H4 := hq9 X4
 have H5 := hq9 X5
 clear X4 X5 X6 hl64
 go_wp2_with (first
  | ((with_reducible show wpList _ _ _ (Oper.mk (some 19) _ _ _ _ _ :: _) _ _); refine wpList_copy_arr rfl (.tmp 17) (.tmp 18) 71 71 rfl 5 Tryz.underlying71 byteSize (w.heap.size + 1) 0 64 64 A4 64 c4 rfl rfl _ _ X1 X3 (sgn l) X2 ?_; intro w5 hb5 ho5 hs5; rw [H6.out] at hb5; have Y1 := hb5.bs; have Y2 := HA4'.out.only ho5 (by simp))
  | ((with_reducible show wpList _ _ _ (Oper.mk (some 20) _ _ _ _ _ :: _) _ _); refine wpList_load_arr rfl 236 (.tmp 3) rfl (w.heap.size + 1) 0 rfl (sgn l) Y1 64 5 Tryz.underlying236 H4.out ?_)
  | ((with_reducible show wpList _ _ _ (Oper.mk none _ _ _ _ _ :: _) _ _); refine wpList_store_arr rfl 236 (.tmp 2) (.tmp 20) rfl w.heap.size (sgn l) rfl rfl _ (zer 64) Y2 H5.out H4.out ?_; intro w6 hb6 ho6 hs6))
 refine bodyPost_ret (v := arrV (sgn l)) (results_cell_row rfl _ _ _ _ _ _ _ rfl hb6 Tryz.underlying236 rfl (by rw [rowSize]; simp [HLS.out])) rfl ⟨rfl, (HN4.out.trans ho5 ?_).trans ho6 ?_⟩
 all_goals simp
end Go.Proofs.YtlggichakafkiaaGreat
namespace Go.Proofs.YtlggichakafkiaaGreat
open Go.RowKit Go.Proofs.FuMem Go.Proofs.FuCode Go.Proofs.FuCrc Go.Proofs.FuGeom
set_option maxRecDepth 100000
theorem nine (w : World) (g : Nat) (hg : g = w.heap.size) (a b c d e f h i j : UInt8) (xs : Array Value) (hx : xs = ([a, b, c, d, e, f, h, i, j].map B).toArray) :
  Bs (w.alloc (.cells xs 5)) (some ⟨g, 0, none⟩) 9 [a, b, c, d, e, f, h, i, j] := by
 subst hg hx
 exact Sl.of_blk (Blk.new w 5 _) 0 (by simp) (by simp)
set_option maxHeartbeats 400000 in
theorem geom_super (v : Nat) (w : World) (hv : v < 4294967296) :
  Calls Tryz.prog 210 #[.int .i64 v] w fun e w' => e = .returned (arrV (superL v)) ∧ Only [] w w' := by
 have hp : ∀ (w' : World) (b : Nat), Bs w' (some ⟨b, 0, none⟩) 9 [4, 70, 85, 83, 69, 0, 0, 0, 0] → Calls Tryz.prog 165 #[.slice (some ⟨b, 0, none⟩) 9 9, .int .i64 5, .int .i64 4, .int .u64 v] w' fun e w'' => ∃ A c, e = .returned (.tuple #[.slice A 9 c, .int .i64 0]) ∧ Bs w'' A 9 (superHead v) ∧ Only [] w' w'' := fun w' b hb => by
  have h1 := code_Put _ 9 9 _ 5 4 v w' hb (by omega) (by omega) (by omega) (by omega)
  rw [put_super v hv] at h1
  refine h1.mono ?_
  rintro e w'' ⟨_, rfl, A1, c1, rfl, ho, on⟩
  rw [superHead_length] at ho ⊢
  exact ⟨A1, c1, rfl, bs_own ho, on⟩
 have HP := hq9 hp
 have hL : (Tryz.prog.info? 236).map (·.size) = some (superL v).length := by rw [superL_length]; exact rowSize
 have hZ : (zer 64).length = (superL v).length := by rw [superL_length]; simp [zer]
 have HL := hq9 hL
 have HZ := hq9 hZ
 clear hp hL hZ
 go_enter Tryz.func210, Tryz.ntmps210
 go_wp2_with ((with_reducible show wpList _ _ _ (Oper.mk (some 2) _ _ _ _ _ :: _) _ _); refine wpList_alloc_arr rfl 236 rfl _ rowZero ?_; intro w1 hb1 ho1 hs1)
 refine (HP.out _ _ (by exact nine w1 _ (by simp [hs1]) 4 70 85 83 69 0 0 0 0 _ rfl)).mono ?_
 rintro e w2 ⟨A2, c2, rfl, b2, o2⟩
 have on1 := (Only.refl [] w1).alloc (.cells ([4, 70, 85, 83, 69, 0, 0, 0, 0].map B).toArray 5)
 have hx := hb1.only (on1.trans0 o2) (by simp)
 have HX := hq9 hx
 have HB := hq9 b2
 have HN := hq9 (ho1.trans0 (on1.trans0 o2))
 have hsz := (ho1.trans0 (on1.trans0 o2)).size
 clear on1 hx b2 o2 hb1 ho1
 go_wp2_with fail
 refine (geom_sealed A2 c2 (superHead v) _ HB.out).mono ?_
 rintro e w3 ⟨rfl, o3⟩
 have hx3 := HX.out.only o3 (by simp)
 have HN3 := hq9 (HN.out.trans0 o3)
 have hZ := HZ.out
 have hL := HL.out
 have HX3 := hq9 hx3
 clear o3 hx3
 go_wp2_with ((with_reducible show wpList _ _ _ (Oper.mk none _ _ _ _ _ :: _) _ _); refine wpList_store_arr rfl 236 (.tmp 2) (.tmp 13) rfl w.heap.size (superL v) rfl rfl _ (zer 64) HX3.out HZ.out HL.out ?_; intro w6 hb6 ho6 hs6)
 refine bodyPost_ret (v := arrV (superL v)) (results_cell_row rfl _ _ _ _ _ _ _ rfl hb6 Tryz.underlying236 rfl (by rw [rowSize]; simp [superL_length])) rfl ⟨rfl, HN3.out.trans ho6 ?_⟩
 simp
set_option maxHeartbeats 400000 in
theorem geom_clock (v : Nat) (w : World) (hv : v < 18446744073709551616) :
  Calls Tryz.prog 124 #[.int .u64 v] w fun e w' => e = .returned (arrV (clockL v)) ∧ Only [] w w' := by
 have hp : ∀ (w' : World) (b : Nat), Bs w' (some ⟨b, 0, none⟩) 9 [3, 0, 0, 0, 0, 0, 0, 0, 0] → Calls Tryz.prog 165 #[.slice (some ⟨b, 0, none⟩) 9 9, .int .i64 1, .int .i64 8, .int .u64 v] w' fun e w'' => ∃ A c, e = .returned (.tuple #[.slice A 9 c, .int .i64 0]) ∧ Bs w'' A 9 (clockHead v) ∧ Only [] w' w'' := fun w' b hb => by
  have h1 := code_Put _ 9 9 _ 1 8 v w' hb (by omega) (by omega) (by omega) (by omega)
  rw [put_clock v hv] at h1
  refine h1.mono ?_
  rintro e w'' ⟨_, rfl, A1, c1, rfl, ho, on⟩
  rw [clockHead_length] at ho ⊢
  exact ⟨A1, c1, rfl, bs_own ho, on⟩
 have HP := hq9 hp
 have hL : (Tryz.prog.info? 236).map (·.size) = some (clockL v).length := by rw [clockL_length]; exact rowSize
 have hZ : (zer 64).length = (clockL v).length := by rw [clockL_length]; simp [zer]
 have HL := hq9 hL
 have HZ := hq9 hZ
 clear hp hL hZ
 go_enter Tryz.func124, Tryz.ntmps124
 go_wp2_with ((with_reducible show wpList _ _ _ (Oper.mk (some 2) _ _ _ _ _ :: _) _ _); refine wpList_alloc_arr rfl 236 rfl _ rowZero ?_; intro w1 hb1 ho1 hs1)
 refine (HP.out _ _ (by exact nine w1 _ (by simp [hs1]) 3 0 0 0 0 0 0 0 0 _ rfl)).mono ?_
 rintro e w2 ⟨A2, c2, rfl, b2, o2⟩
 have on1 := (Only.refl [] w1).alloc (.cells ([3, 0, 0, 0, 0, 0, 0, 0, 0].map B).toArray 5)
 have hx := hb1.only (on1.trans0 o2) (by simp)
 have HX := hq9 hx
 have HB := hq9 b2
 have HN := hq9 (ho1.trans0 (on1.trans0 o2))
 have hsz := (ho1.trans0 (on1.trans0 o2)).size
 clear on1 hx b2 o2 hb1 ho1
 go_wp2_with fail
 refine (geom_sealed A2 c2 (clockHead v) _ HB.out).mono ?_
 rintro e w3 ⟨rfl, o3⟩
 have hx3 := HX.out.only o3 (by simp)
 have HN3 := hq9 (HN.out.trans0 o3)
 have hZ := HZ.out
 have hL := HL.out
 have HX3 := hq9 hx3
 clear o3 hx3
 go_wp2_with ((with_reducible show wpList _ _ _ (Oper.mk none _ _ _ _ _ :: _) _ _); refine wpList_store_arr rfl 236 (.tmp 2) (.tmp 12) rfl w.heap.size (clockL v) rfl rfl _ (zer 64) HX3.out HZ.out HL.out ?_; intro w6 hb6 ho6 hs6)
 refine bodyPost_ret (v := arrV (clockL v)) (results_cell_row rfl _ _ _ _ _ _ _ rfl hb6 Tryz.underlying236 rfl (by rw [rowSize]; simp [clockL_length])) rfl ⟨rfl, HN3.out.trans ho6 ?_⟩
 simp
end Go.Proofs.YtlggichakafkiaaGreat
namespace Go.Proofs.YtlggichakafkiaaGreat
open Go.RowKit Go.Proofs.FuMem Go.Proofs.FuCode Go.Proofs.FuCrc Go.Proofs.FuGeom
set_option maxRecDepth 100000
theorem geom_whole_no (A : Option Addr) (n c : Nat) (w : World) (_hn : n ≤ maxLen) (h64 : n ≠ 64) :
  Calls Tryz.prog 122 #[.slice A n c] w fun e w' => e = .returned (.tuple #[arrV (zer 64), .bool false]) ∧ Only [] w w' := by
 have d1 : ((n : Int) != 64) = true := by rw [bne_iff_ne]; omega
 have hL : (Tryz.prog.info? 236).map (·.size) = some (zer 64).length := by rw [zer_length]; exact rowSize
 obtain ⟨i0, hi, hz0, hz1, hz2⟩ := info_parts Tryz.byteInfo
 have HL := hq9 hL
 have HI := hq9 hi
 clear hL hi hz0 hz1 hz2 h64
 go_enter Tryz.func122, Tryz.ntmps122
 go_wp2_with (first
  | ((with_reducible show wpList _ _ _ (Oper.mk (some 2) _ _ _ _ _ :: _) _ _); refine wpList_alloc_arr rfl 236 rfl _ rowZero ?_; intro w1 hb1 ho1 hs1)
  | ((with_reducible show wpList _ _ _ (Oper.mk (some 7) _ _ _ _ _ :: _) _ _); refine wpList_build_zero rfl 236 rfl (zer 64) rowZero 64 5 Tryz.underlying236 i0 HI.out ?_)
  | ((with_reducible show wpList _ _ _ (Oper.mk none _ _ _ _ _ :: _) _ _); refine wpList_store_arr rfl 236 (.tmp 2) (.tmp 7) rfl w.heap.size (zer 64) rfl rfl _ (zer 64) hb1 rfl HL.out ?_; intro w6 hb6 ho6 hs6))
 refine bodyPost_ret (results_arr_tmp rfl _ _ _ _ hb6 rfl 64 5 Tryz.underlying236 HL.out) rfl ⟨rfl, ho1.trans ho6 ?_⟩
 simp
theorem geom_whole_yes (b off c : Nat) (l : List UInt8) (w : World) (h : Bs w (some ⟨b, off, none⟩) 64 l) :
  Calls Tryz.prog 122 #[.slice (some ⟨b, off, none⟩) 64 c] w fun e w' => e = .returned (.tuple #[arrV l, .bool true]) ∧ Only [] w w' := by
 have hl := h.len
 have hL : (Tryz.prog.info? 236).map (·.size) = some l.length := by rw [hl]; exact rowSize
 have hZ : (zer 64).length = l.length := by rw [hl]; simp [zer]
 have h' := h
 rw [← hl] at h'
 have HX := hq9 h'
 have HL := hq9 hL
 have HZ := hq9 hZ
 have harr : ∀ w, (Instr.arrayAt 236 (.slice (some ⟨b, off, none⟩) 64 c)).run Tryz.prog w = .ok (.pointer (some ⟨b, off, none⟩)) w := fun w => by simp [Instr.arrayAt, run_underlying Tryz.underlying236]
 clear h h' hl hL hZ
 go_enter Tryz.func122, Tryz.ntmps122
 go_wp2_with (first
  | ((with_reducible show wpList _ _ _ (Oper.mk (some 2) _ _ _ _ _ :: _) _ _); refine wpList_alloc_arr rfl 236 rfl _ rowZero ?_; intro w1 hb1 ho1 hs1; have hx := HX.out.only0 ho1)
  | ((with_reducible show wpList _ _ _ (Oper.mk (some 10) _ _ _ _ _ :: _) _ _); refine wpList_load_arr rfl 236 (.tmp 9) rfl b off rfl l hx 64 5 Tryz.underlying236 HL.out ?_)
  | ((with_reducible show wpList _ _ _ (Oper.mk none _ _ _ _ _ :: _) _ _); refine wpList_store_arr rfl 236 (.tmp 2) (.tmp 10) rfl w.heap.size l rfl rfl _ (zer 64) hb1 HZ.out HL.out ?_; intro w6 hb6 ho6 hs6))
 refine bodyPost_ret (results_arr_tmp rfl _ _ _ _ hb6 rfl 64 5 Tryz.underlying236 HL.out) rfl ⟨rfl, ho1.trans ho6 ?_⟩
 simp
theorem geom_Clock (v : Nat) (w : World) (hv : v < 18446744073709551616) :
  Calls Tryz.prog 177 #[.int .u64 v] w fun e w' => ∃ g, e = .returned (.slice (some ⟨g, 0, none⟩) 64 64) ∧ Arr w' g 236 (clockL v) ∧ w.heap.size ≤ g ∧ Only [] w w' := by
 have hL : (Tryz.prog.info? 236).map (·.size) = some (clockL v).length := by rw [clockL_length]; exact rowSize
 have hZ : (zer 64).length = (clockL v).length := by rw [clockL_length]; simp [zer]
 have HL := hq9 hL
 have HZ := hq9 hZ
 clear hL hZ
 go_enter Tryz.func177, Tryz.ntmps177
 go_wp2_with fail
 refine (geom_clock v _ hv).mono ?_
 rintro e w1 ⟨rfl, o1⟩
 have h1 := o1.size
 go_wp2_with (first
  | ((with_reducible show wpList _ _ _ (Oper.mk (some 3) _ _ _ _ _ :: _) _ _); refine wpList_alloc_arr rfl 236 rfl _ rowZero ?_; intro w2 hb2 ho2 hs2)
  | ((with_reducible show wpList _ _ _ (Oper.mk none _ _ _ _ _ :: _) _ _); refine wpList_store_arr rfl 236 (.tmp 3) (.tmp 5) rfl w1.heap.size (clockL v) rfl rfl _ (zer 64) hb2 HZ.out HL.out ?_; intro w6 hb6 ho6 hs6))
 go_ret
 exact ⟨w1.heap.size, rfl, hb6, h1, (o1.trans0 ho2).trans ho6 (by simpa using h1)⟩
theorem geom_Super_no (n : Int) (w : World) (h : -9223372036854775808 ≤ n ∧ n ≤ 9223372036854775807) (hn : n < 10 ∨ 258 < n) :
  Calls Tryz.prog 176 #[.int .i64 n] w fun e w' => e = .returned (.tuple #[.slice none 0 0, .int .i64 2]) ∧ w = w' := by
 by_cases h1 : n < 10
 ·clear hn
  go_enter Tryz.func176, Tryz.ntmps176
  go_wp2
  go_ret2
  exact ⟨rfl, rfl⟩
 ·have h2 : 258 < n := by omega
  clear hn
  go_enter Tryz.func176, Tryz.ntmps176
  go_wp2
  go_ret2
  exact ⟨rfl, rfl⟩
theorem geom_Super (v : Nat) (w : World) (h1 : 10 ≤ v) (h2 : v ≤ 258) :
  Calls Tryz.prog 176 #[.int .i64 v] w fun e w' => ∃ g, e = .returned (.tuple #[.slice (some ⟨g, 0, none⟩) 64 64, .int .i64 0]) ∧ Arr w' g 236 (superL v) ∧ w.heap.size ≤ g ∧ Only [] w w' := by
 have hL : (Tryz.prog.info? 236).map (·.size) = some (superL v).length := by rw [superL_length]; exact rowSize
 have hZ : (zer 64).length = (superL v).length := by rw [superL_length]; simp [zer]
 have HL := hq9 hL
 have HZ := hq9 hZ
 clear hL hZ
 go_enter Tryz.func176, Tryz.ntmps176
 go_wp2_with fail
 refine (geom_super v _ (by omega)).mono ?_
 rintro e w1 ⟨rfl, o1⟩
 have h1 := o1.size
 go_wp2_with (first
  | ((with_reducible show wpList _ _ _ (Oper.mk (some 4) _ _ _ _ _ :: _) _ _); refine wpList_alloc_arr rfl 236 rfl _ rowZero ?_; intro w2 hb2 ho2 hs2)
  | ((with_reducible show wpList _ _ _ (Oper.mk none _ _ _ _ _ :: _) _ _); refine wpList_store_arr rfl 236 (.tmp 4) (.tmp 12) rfl w1.heap.size (superL v) rfl rfl _ (zer 64) hb2 HZ.out HL.out ?_; intro w6 hb6 ho6 hs6))
 go_ret2
 exact ⟨w1.heap.size, rfl, hb6, h1, (o1.trans0 ho2).trans ho6 (by simpa using h1)⟩
theorem geom_Slabs_no (n : Int) (w : World) (h : n < 10) :
  Calls Tryz.prog 93 #[.int .i64 n] w fun e w' => e = .returned (.int .i64 0) ∧ w = w' := by
 go_enter Tryz.func93, Tryz.ntmps93
 go_wp2
 go_ret
 exact ⟨rfl, rfl⟩
end Go.Proofs.YtlggichakafkiaaGreat