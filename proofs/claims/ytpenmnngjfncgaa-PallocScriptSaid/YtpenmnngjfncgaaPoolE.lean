/- The contract of palloc.New. -/
import Derived.Test.YtpenmnngjfncgaaPoolD
namespace Go.Proofs.FuPool
open Go.RowKit Go.Proofs.FuMem
def raw : Slab := ⟨0, List.replicate 8 false⟩
def mix (n j : Nat) : Pool := List.replicate j whole ++ List.replicate (n - j) raw
theorem mix_zero (n : Nat) : mix n 0 = List.replicate n raw := by simp [mix]
theorem mix_all (n : Nat) : mix n n = newPool n := by simp [mix, newPool]
theorem mix_length {n j : Nat} (h : j ≤ n) : (mix n j).length = n := by simp [mix]; omega
theorem mix_at {n j : Nat} (h : j < n) : (mix n j)[j]? = some raw := by
  unfold mix
  rw [List.getElem?_append_right (by simp)]
  simp [List.getElem?_replicate]
  omega
theorem mix_turn {n j : Nat} (h : j < n) : (mix n j).modify j (fun s => ⟨-1, s.taken⟩) = mix n (j + 1) := by
  apply List.ext_getElem?
  intro i
  rw [List.getElem?_modify]
  unfold mix
  by_cases hij : j = i
  · subst hij
    rw [List.getElem?_append_right (by simp), List.getElem?_append_left (by simp)]
    simp [List.getElem?_replicate, raw, whole]
    omega
  · simp only [if_neg hij]
    by_cases hlt : i < j
    · rw [List.getElem?_append_left (by simpa using hlt), List.getElem?_append_left (by simp; omega)]
      simp [List.getElem?_replicate, hlt]
      omega
    · rw [List.getElem?_append_right (by simp; omega), List.getElem?_append_right (by simp; omega)]
      simp only [List.length_replicate, List.getElem?_replicate]
      by_cases h2 : i < n
      · rw [if_pos (by omega), if_pos (by omega)]
        rfl
      · rw [if_neg (by omega), if_neg (by omega)]
        rfl
theorem raw_cells : cellsOf raw = [.int .i64 0, .bool false, .bool false, .bool false, .bool false, .bool false, .bool false, .bool false, .bool false, .int .i64 0] := rfl
theorem madeCells_list (c : List Value) (n : Nat) (_hc : 0 < c.length) : madeCells c.toArray (n * c.length) = (List.replicate n c).flatten.toArray := by
  have h : ∀ n, (List.range (n * c.length)).map (fun i => c.toArray[i % c.toArray.size]!) = (List.replicate n c).flatten := by
    intro n
    induction n with
    | zero => simp
    | succ n ih =>
      rw [Nat.succ_mul, List.range_add, List.map_append, ih, List.replicate_succ', List.flatten_append]
      congr 1
      simp only [List.map_map, List.flatten_cons, List.flatten_nil, List.append_nil]
      apply List.ext_getElem
      · simp
      · intro i h1 h2
        simp only [List.getElem_map, List.getElem_range, Function.comp, List.size_toArray]
        have e : (n * c.length + i) % c.length = i := by rw [Nat.mul_comm, Nat.mul_add_mod, Nat.mod_eq_of_lt h2]
        rw [e]
        simp [h2]
  unfold madeCells
  rw [← h n]
  apply Array.ext'
  simp
theorem flat_replicate (n : Nat) (x : Slab) : flat (List.replicate n x) = (List.replicate n (cellsOf x)).flatten := by
  unfold flat rows
  rw [List.map_replicate]
section
variable {P : Program} {w : World}
theorem make_slabs (t e : TypeId) (i : TypeInfo) (z : Value) (ht : P.underlying t = some (.slice e)) (hi : P.info? e = some i) (hz : i.zero = some z) (hsize : i.size = 10) (hz1 : z.cells = (cellsOf raw).toArray)
    (n : Nat) (hbytes : i.bytes * n ≤ 281474976710656) (h63 : n ≤ 9223372036854775807) :
    ∃ w', (Instr.makeSlice t (.int .i64 (n : Int)) (.int .i64 (n : Int))).run P w = .ok (.slice (some ⟨w.heap.size, 0, none⟩) n n) w' ∧
      Blk w' w.heap.size e (flat (List.replicate n raw)).toArray ∧ Only [] w w' ∧ w'.heap.size = w.heap.size + 1 := by
  have hb : (i.bytes : Int) * (n : Int) ≤ 281474976710656 := by
    have h : ((i.bytes * n : Nat) : Int) ≤ 281474976710656 := by omega
    rwa [Int.natCast_mul] at h
  have hr := run_make (P := P) w t e i z ht hi hz .i64 .i64 n n (by omega) (by omega) hb (by omega)
  simp only [Int.toNat_natCast] at hr
  have hm := madeCells_list (cellsOf raw) n (by rw [raw_cells]; decide)
  rw [show (cellsOf raw).length = 10 from rfl] at hm
  rw [hsize, hz1, hm, ← flat_replicate] at hr
  exact ⟨_, hr, Blk.new _ _ _, (Only.refl _ _).alloc _, by simp⟩
end
end Go.Proofs.FuPool
namespace Go.Proofs.Ytpenmnngjfncgaa
open Go.RowKit Go.Proofs.FuMem Go.Proofs.FuClass Go.Proofs.FuPool
set_option maxRecDepth 100000
theorem slabZero : ∃ i z, Try.prog.info? 63 = some i ∧ i.zero = some z ∧ i.size = 10 ∧ z.cells = (cellsOf raw).toArray ∧ i.bytes = 24 := ⟨_, _, rfl, rfl, rfl, rfl, rfl⟩
theorem geom_Slabs_258 (w : World) : Calls Try.prog 42 #[.int .i64 258] w fun e w' => e = .returned (.int .i64 32) ∧ w = w' := by
  go_enter Try.func42, Try.ntmps42
  go_wp2
  go_ret
  exact ⟨rfl, rfl⟩
theorem pool_New_no (n : Int) (w : World) (h : n < 1 ∨ 32 < n) :
    Calls Try.prog 23 #[.int .i64 n] w fun e w' => e = .returned (.tuple #[.pointer none, .int .i64 2]) ∧ w = w' := by
  by_cases h1 : n < 1
  · clear h
    go_enter Try.func23, Try.ntmps23
    go_wp2
    go_ret2
    exact ⟨rfl, rfl⟩
  · have h2 : 32 < n := by omega
    clear h
    go_enter Try.func23, Try.ntmps23
    go_wp2_with fail
    refine (geom_Slabs_258 _).mono ?_
    rintro e w' ⟨rfl, rfl⟩
    go_wp2
    go_ret2
    exact ⟨rfl, rfl⟩
set_option maxHeartbeats 800000 in
theorem pool_New (n : Nat) (w : World) (h1 : 1 ≤ n) (h2 : n ≤ 32) :
    Calls Try.prog 23 #[.int .i64 n] w fun e w' => ∃ g sb, e = .returned (.tuple #[.pointer (some ⟨g, 0, none⟩), .int .i64 0]) ∧ PoolAt w' g sb (newPool n) ∧ Only [] w w' ∧ w.heap.size ≤ g ∧ w.heap.size ≤ sb := by
  obtain ⟨ci, cz, hi, hz, hs, hc, hby⟩ := slabZero
  obtain ⟨w1, hr, hb, ho, hg⟩ := make_slabs (P := Try.prog) (w := w) 59 63 ci cz rfl hi hz hs hc n (by rw [hby]; omega) (by omega)
  have hal : Only [] w1 (w1.alloc (.cells #[.slice (some ⟨w.heap.size, 0, none⟩) n n] 70)) := (Only.refl _ _).alloc _
  have hhd := Blk.new w1 70 #[.slice (some ⟨w.heap.size, 0, none⟩) n n]
  rw [hg] at hhd
  have hip : PoolAt (w1.alloc (.cells #[.slice (some ⟨w.heap.size, 0, none⟩) n n] 70)) (w.heap.size + 1) w.heap.size (mix n 0) := by
    refine ⟨by rw [mix_length (by omega)]; exact hhd, ?_, by omega, by rw [mix_length (by omega)]; exact h1, by rw [mix_length (by omega)]; exact h2, ?_⟩
    · rw [mix_zero]
      exact hb.only hal (by simp)
    · intro s hs
      rw [mix_zero] at hs
      rw [(List.mem_replicate.1 hs).2]
      rfl
  have HI := Lib.hid hip
  have HO := Lib.hid (ho.trans0 hal)
  have HG := Lib.hid hg
  have q1 : decide ((n : Int) < 1) = false := by rw [decide_eq_false_iff_not]; omega
  have q2 : decide ((32 : Int) < (n : Int)) = false := by rw [decide_eq_false_iff_not]; omega
  have x0 : (w1.alloc (.cells #[.slice (some ⟨w.heap.size, 0, none⟩) n n] 70)).cell? ⟨w1.heap.size, 0, none⟩ = some (.slice (some ⟨w.heap.size, 0, none⟩) n n) := by
    rw [hg]
    exact hhd.cell 0
  clear hip ho hal hhd hb hi hz hc hg
  go_enter Try.func23, Try.ntmps23
  go_wp2_with fail
  refine (geom_Slabs_258 _).mono ?_
  rintro e w' ⟨rfl, rfl⟩
  go_wp2
  rw [HG.out]
  generalize w1.alloc (.cells #[.slice (some ⟨w.heap.size, 0, none⟩) n n] 70) = w2 at HI HO ⊢
  go_loopw [5, 22] (fun _ kv wr => ∃ j : Nat, j ≤ n ∧ kv = .int .i64 j ∧ PoolAt wr (w.heap.size + 1) w.heap.size (mix n j) ∧ Only [] w wr) (fun _ kv _ => n - (intOf kv).toNat)
  case atStart => exact ⟨0, by omega, rfl, HI.out, HO.out⟩
  case round =>
    obtain ⟨j, hj, rfl, hp, on⟩ := hrel
    by_cases hlt : j < n
    · have y1 : (0 : Int) ≤ (j : Int) := by omega
      have y2 : (j : Int) < (n : Int) := by omega
      have y3 : decide ((j : Int) < (n : Int)) = true := by rw [decide_eq_true_eq]; omega
      have z0 : wr.cell? ⟨w.heap.size + 1, 0, none⟩ = some (.slice (some ⟨w.heap.size, 0, none⟩) n n) := by
        have := hp.headCell
        rwa [mix_length (by omega)] at this
      have zc := hp.cls (mix_at hlt)
      have f0 := hp.frozen (j * 10)
      have HT := Lib.hid (hp.turn1 (mix_at hlt) (o1 := 0) (by omega) (.int .i64 (-1)) (f := fun s => ⟨-1, s.taken⟩) rfl rfl)
      rw [mix_turn hlt, Nat.add_zero] at HT
      have ON := Lib.hid on
      clear hp on
      go_wp2
      go_roundw
      · exact ⟨j + 1, by omega, by simp, HT.out.1, ON.out.trans HT.out.2 (by simp)⟩
      · simp [intOf]
        omega
    · obtain rfl : j = n := by omega
      have y3 : decide ((j : Int) < (j : Int)) = false := by simp
      rw [mix_all] at hp
      have HP := Lib.hid hp
      have ON := Lib.hid on
      clear hp on
      go_wp2
      go_ret2
      exact ⟨_, _, rfl, HP.out, ON.out, by omega, by omega⟩
end Go.Proofs.Ytpenmnngjfncgaa
