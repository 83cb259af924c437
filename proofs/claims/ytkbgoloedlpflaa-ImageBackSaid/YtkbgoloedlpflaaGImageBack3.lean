/- Counts, and the copy of a device. -/
import Derived.StillTailTactics
import Derived.Laws.BitsLemmas
import Derived.Deep.RegionHeld3
import Derived.Test.YtkbgoloedlpflaaProg
import Derived.WalkKit
import Derived.WalkLawsBesides
import Derived.WalkSpells
import Derived.Outline
import Derived.Lib.Hide
import Derived.Deep.LoopGhost
import Derived.Laws.BitsAllLaws
import Derived.Test.YtkbgoloedlpflaaGImageBack1
import Derived.Test.YtkbgoloedlpflaaGImageBack2
set_option maxRecDepth 100000
namespace Go.Proofs.Ytkbgoloedlpflaa
open Go.RowKit Go.Proofs.FuMem Go.Proofs.FuNvm Go.Proofs.FuCode
theorem drawn_only {w wd : World} (h : ({ w with drawn := w.drawn + 1 } : World) = wd) : Only [] w wd := by subst h; exact (Only.refl _ _).drew
abbrev countsV (D : Dev) : Value := .agg #[.int .i64 D.stores, .int .i64 D.flushes, .int .i64 D.fences, .int .i64 D.backs, .int .i64 D.cuts]
set_option maxHeartbeats 1000000 in
theorem nvm_Counts (g cb cap : Nat) (D : Dev) (w : World) (hd : DevAt w g cb cap D) :
    Calls Try.prog 19 #[.pointer (some ⟨g, 0, none⟩)] w fun e w' => e = .returned (countsV D) ∧ Only [] w w' := by
  have o1 : Only [] w (w.alloc (.cells #[.int .i64 0, .int .i64 0, .int .i64 0, .int .i64 0, .int .i64 0] 45)) := (Only.refl _ _).alloc _
  have hb1 := Blk.new w 45 #[.int .i64 0, .int .i64 0, .int .i64 0, .int .i64 0, .int .i64 0]
  have HD := Lib.hid (hd.only0 o1)
  have O1 := Lib.hid o1
  have HB := Lib.hid hb1
  clear o1 hb1 hd
  obtain ⟨L, s1, s2, s3, s4, s5⟩ := D
  go_enter Try.func19, Try.ntmps19
  go_wp2_with fail
  generalize w.alloc (.cells #[.int .i64 0, .int .i64 0, .int .i64 0, .int .i64 0, .int .i64 0] 45) = w1 at *
  refine wp_region_still_tail 21 (by kernel_rfl) (by kernel_rfl) ?_
  simp only [List.take_succ_cons, List.take_zero, List.drop_succ_cons, List.drop_zero]
  generalize hwd : ({ w1 with drawn := w1.drawn + 1 } : World) = wd
  have OD := Lib.hid (drawn_only hwd)
  clear hwd
  have hdd := HD.out.only0 OD.out
  have c1 : wd.cell? ⟨g, 1, none⟩ = some (.int .i64 s1) := hdd.cell 1
  have c2 : wd.cell? ⟨g, 2, none⟩ = some (.int .i64 s2) := hdd.cell 2
  have c3 : wd.cell? ⟨g, 3, none⟩ = some (.int .i64 s3) := hdd.cell 3
  have c4 : wd.cell? ⟨g, 4, none⟩ = some (.int .i64 s4) := hdd.cell 4
  have c5 : wd.cell? ⟨g, 5, none⟩ = some (.int .i64 s5) := hdd.cell 5
  have hbd : Blk wd w.heap.size 45 #[.int .i64 0, .int .i64 0, .int .i64 0, .int .i64 0, .int .i64 0] := HB.out.only OD.out (by simp)
  clear hdd
  repeat still_step
  still_call (Calls.flip (int64_Load g 1 s1 wd c1))
  repeat still_step
  still_call (Calls.flip (int64_Load g 2 s2 wd c2))
  repeat still_step
  still_call (Calls.flip (int64_Load g 3 s3 wd c3))
  repeat still_step
  still_call (Calls.flip (int64_Load g 4 s4 wd c4))
  repeat still_step
  still_call (Calls.flip (int64_Load g 5 s5 wd c5))
  repeat still_step
  refine wpStill_nil ?_
  refine wpList_store_blk rfl 45 (.tmp 2) (.tmp 30) rfl w.heap.size 0 #[.int .i64 s1, .int .i64 s2, .int .i64 s3, .int .i64 s4, .int .i64 s5] rfl rfl 45 _ hbd (by simp) (by kernel_rfl) (by kernel_rfl) ?_
  intro w2 hb2 ho2 hs2
  have hb2' : Blk w2 w.heap.size 45 #[.int .i64 s1, .int .i64 s2, .int .i64 s3, .int .i64 s4, .int .i64 s5] := hb2
  go_wp2
  refine bodyPost_ret (results_cell_row rfl _ _ w.heap.size 45 _ _ _ rfl hb2' Try.underlying45 rfl (by kernel_rfl)) rfl ⟨rfl, (O1.out.trans0 OD.out).trans ho2 (by simp)⟩
theorem countsZero : (Try.prog.info? 45).map (·.zero) = some (some (.agg #[.int .i64 0, .int .i64 0, .int .i64 0, .int .i64 0, .int .i64 0])) := by kernel_rfl
end Go.Proofs.Ytkbgoloedlpflaa
/- The walk of the statement NvmCopies. -/
set_option maxRecDepth 100000
namespace Go.Proofs.Ytkbgoloedlpflaa
open Go.RowKit Go.Proofs.FuMem Go.Proofs.FuNvm Go.Proofs.FuCode
/-- do two devices' counts agree? -/
def sameCounts (D E : Dev) : Bool := D.stores == E.stores && (D.flushes == E.flushes && (D.fences == E.fences && (D.backs == E.backs && D.cuts == E.cuts)))
theorem sameCounts_refl (D : Dev) : sameCounts D D = true := by simp [sameCounts]
theorem eqFields_cons {P : Program} (d : Nat) (xs ys : Array Value) (f : Field) (fs : List Field) (a b : Value) (r : Bool) (w : World) (hn : f.name ≠ "_") (ha : (part f.type xs f.offset).run P w = .ok a w) (hb : (part f.type ys f.offset).run P w = .ok b w)
    (hr : (Op.equalIn d f.type a b).run P w = .ok r w) (s : Bool) (hs : (Op.eqFields d xs ys fs).run P w = .ok s w) : (Op.eqFields d xs ys (f :: fs)).run P w = .ok (r && s) w := by
  unfold Op.eqFields
  rw [if_pos hn]
  simp only [Sem.run_bind, ha, hb, hr, Result.andThen_ok]
  cases r
  · simp
  · simp [hs]
theorem eqFields_nil {P : Program} (d : Nat) (xs ys : Array Value) (w : World) : (Op.eqFields d xs ys []).run P w = .ok true w := by simp [Op.eqFields]
theorem counts_equal (D E : Dev) (w : World) : (Op.equalIn 10000 45 (countsV D) (countsV E)).run Try.prog w = .ok (sameCounts D E) w := by
  rw [run_equalIn_struct w 9999 45 _ _ (by kernel_rfl) (by kernel_rfl)]
  have hf : (Try.prog.fieldsOf 45).toList.map (fun f => (f.type, f.offset, decide (f.name = "_"))) = [(3, 0, false), (3, 1, false), (3, 2, false), (3, 3, false), (3, 4, false)] := by kernel_rfl
  generalize (Try.prog.fieldsOf 45).toList = fs at *
  obtain ⟨f0, f1, f2, f3, f4, rfl⟩ : ∃ f0 f1 f2 f3 f4, fs = [f0, f1, f2, f3, f4] := by
    have hl := congrArg List.length hf
    rw [List.length_map] at hl
    rcases fs with _ | ⟨f0, _ | ⟨f1, _ | ⟨f2, _ | ⟨f3, _ | ⟨f4, _ | ⟨f5, fs⟩⟩⟩⟩⟩⟩
    · simp at hl
    · simp at hl
    · simp at hl
    · simp at hl
    · simp at hl
    · exact ⟨_, _, _, _, _, rfl⟩
    · simp at hl
  · simp only [List.map_cons, List.map_nil, List.cons.injEq, Prod.mk.injEq, decide_eq_false_iff_not, and_true] at hf
    obtain ⟨⟨t0, o0, n0⟩, ⟨t1, o1, n1⟩, ⟨t2, o2, n2⟩, ⟨t3, o3, n3⟩, ⟨t4, o4, n4⟩⟩ := hf
    have hp : ∀ (xs : Array Value) (k : Nat) (v : Value), xs[k]? = some v → (part 3 xs k).run Try.prog w = .ok v w := fun xs k v h => by
      simp [part, isAgg, run_underlying Try.underlying3, h]
    have hq : ∀ a b : Int, (Op.equalIn 9999 3 (.int .i64 a) (.int .i64 b)).run Try.prog w = .ok (a == b) w := fun a b => run_equalIn_int (P := Try.prog) w 9998 3 .i64 .i64 a b Try.underlying3
    have key := eqFields_cons (P := Try.prog) 9999 #[.int .i64 D.stores, .int .i64 D.flushes, .int .i64 D.fences, .int .i64 D.backs, .int .i64 D.cuts] #[.int .i64 E.stores, .int .i64 E.flushes, .int .i64 E.fences, .int .i64 E.backs, .int .i64 E.cuts]
    have := key f0 _ _ _ _ w n0 (by rw [t0, o0]; exact hp _ 0 _ rfl) (by rw [t0, o0]; exact hp _ 0 _ rfl) (by rw [t0]; exact hq _ _) _
      (key f1 _ _ _ _ w n1 (by rw [t1, o1]; exact hp _ 1 _ rfl) (by rw [t1, o1]; exact hp _ 1 _ rfl) (by rw [t1]; exact hq _ _) _
      (key f2 _ _ _ _ w n2 (by rw [t2, o2]; exact hp _ 2 _ rfl) (by rw [t2, o2]; exact hp _ 2 _ rfl) (by rw [t2]; exact hq _ _) _
      (key f3 _ _ _ _ w n3 (by rw [t3, o3]; exact hp _ 3 _ rfl) (by rw [t3, o3]; exact hp _ 3 _ rfl) (by rw [t3]; exact hq _ _) _
      (key f4 _ _ _ _ w n4 (by rw [t4, o4]; exact hp _ 4 _ rfl) (by rw [t4, o4]; exact hp _ 4 _ rfl) (by rw [t4]; exact hq _ _) _ (eqFields_nil _ _ _ w)))))
    rw [this]
    simp [sameCounts]
theorem neq_counts (D E : Dev) (w : World) : (binOp .neq 45 (countsV D) (countsV E)).run Try.prog w = .ok (.bool (!sameCounts D E)) w := by
  unfold countsV
  rw [run_neq_struct]
  have := counts_equal D E w
  unfold countsV at this
  rw [this]
  rfl
theorem eql_counts (D E : Dev) (w : World) : (binOp .eql 45 (countsV D) (countsV E)).run Try.prog w = .ok (.bool (sameCounts D E)) w := by
  unfold countsV
  rw [run_eql_struct]
  have := counts_equal D E w
  unfold countsV at this
  rw [this]
  rfl
theorem countsGuard : Try.prog.eqGuardType Try.prog.depth 45 = false := by kernel_rfl
end Go.Proofs.Ytkbgoloedlpflaa
/- The contracts of the reference of chapter 3, first part: the bounds, the bytes of a line, stores. -/
namespace Go.Proofs.FuMem
open Go.RowKit
/-- an array is read, in a region that draws its order -/
theorem still_load_arr {P : Program} {w : World} {ops : Array Oper} {rest : List Oper} {o : Oper} {a : Act} {Q : Act → Prop} (hw : Region.wanted o (yielded ops a.tmps) = true) (T : TypeId) (x : Operand) (ho : o.op = .load T x) (b off : Nat)
    (hx : a.eval x = .pointer (some ⟨b, off, none⟩)) (l : List UInt8) (hc : Bs w (some ⟨b, off, none⟩) l.length l) (n : Nat) (e : TypeId) (hu : P.underlying T = some (.array n e)) (hi : (P.info? T).map (·.size) = some l.length)
    (h : wpStill P ops w Q rest (a.put o.dst (arrV l))) : wpStill P ops w Q (o :: rest) a :=
  wpStill_step fun K hK => by
    rw [if_pos hw]
    have hr := run_loadAt_mid (P := P) w b off T (l.map B) _ (Sl.range hc) hu rfl (by simpa using hi)
    unfold Oper.still execOp
    simp only [ho, hx, Sem.run_bind, hr, Result.andThen_ok, Sem.run_pure]
    exact ⟨rfl, hK _ h⟩
theorem still_only {w wd : World} (h : ({ w with drawn := w.drawn + 1 } : World) = wd) : Only [] w wd := by subst h; exact (Only.refl _ _).drew
end Go.Proofs.FuMem
namespace Go.Proofs.Ytkbgoloedlpflaa
open Go.RowKit Go.Proofs.FuMem Go.Proofs.FuNvm Go.Proofs.FuCode
set_option maxRecDepth 100000
abbrev RefAt (w : World) (g cb cap : Nat) (D : Dev) : Prop := IsDev 79 104 w g cb cap D
theorem ref3_Has_no (g cb cap : Nat) (D : Dev) (line : Int) (w : World) (hd : RefAt w g cb cap D) (h : line < 0 ∨ (D.lines.length : Int) ≤ line) :
    Calls Try.prog 65 #[.pointer (some ⟨g, 0, none⟩), .int .i64 line] w fun e w' => e = .returned (.bool false) ∧ w = w' := by
  have hc : w.cell? ⟨g, 0, none⟩ = some (.slice (some ⟨cb, 0, none⟩) D.lines.length cap) := hd.cell 0
  have hf := hd.few
  clear hd
  generalize D.lines.length = m at *
  by_cases h1 : line < 0
  · have q1 : decide (0 ≤ line) = false := by rw [decide_eq_false_iff_not]; omega
    clear h
    go_enter Try.func65, Try.ntmps65
    go_wp2
    go_ret
    exact ⟨rfl, rfl⟩
  · have q1 : decide (0 ≤ line) = true := by rw [decide_eq_true_eq]; omega
    have q2 : decide (line < (m : Int)) = false := by rw [decide_eq_false_iff_not]; omega
    clear h h1
    go_enter Try.func65, Try.ntmps65
    go_wp2
    go_ret
    exact ⟨rfl, rfl⟩
theorem ref3_Has_yes (g cb cap : Nat) (D : Dev) (line : Int) (w : World) (hd : RefAt w g cb cap D) (h : 0 ≤ line ∧ line < (D.lines.length : Int)) :
    Calls Try.prog 65 #[.pointer (some ⟨g, 0, none⟩), .int .i64 line] w fun e w' => e = .returned (.bool true) ∧ w = w' := by
  have hc : w.cell? ⟨g, 0, none⟩ = some (.slice (some ⟨cb, 0, none⟩) D.lines.length cap) := hd.cell 0
  have hf := hd.few
  clear hd
  generalize D.lines.length = m at *
  have q1 : decide (0 ≤ line) = true := by rw [decide_eq_true_eq]; omega
  have q2 : decide (line < (m : Int)) = true := by rw [decide_eq_true_eq]; omega
  clear h
  go_enter Try.func65, Try.ntmps65
  go_wp2
  go_ret
  exact ⟨rfl, rfl⟩
theorem rowZero3 : (Try.prog.info? 69).map (·.zero) = some (some (arrV (List.replicate 64 0))) := by kernel_rfl
theorem arrSize3 : (Try.prog.info? 69).map (·.size) = some 64 := by kernel_rfl
/-- bytes in a block of their own -/
def MadeA (w : World) (l : List UInt8) (v : Value) (w' : World) : Prop := ∃ g, v = .slice (some ⟨g, 0, none⟩) l.length l.length ∧ Bs w' (some ⟨g, 0, none⟩) l.length l ∧ w.heap.size ≤ g ∧ Only [] w w'
theorem ref3_Load_no (g cb cap : Nat) (D : Dev) (line : Int) (w : World) (hd : RefAt w g cb cap D) (h : line < 0 ∨ (D.lines.length : Int) ≤ line) :
    Calls Try.prog 43 #[.pointer (some ⟨g, 0, none⟩), .int .i64 line] w fun e w' => e = .returned (.tuple #[.slice none 0 0, .int .i64 2]) ∧ w = w' := by
  have HT := Lib.hid (ref3_Has_no g cb cap D line w hd h)
  clear hd h
  go_enter Try.func43, Try.ntmps43
  go_wp2_with fail
  refine (HT.out).mono ?_
  rintro e w' ⟨rfl, rfl⟩
  go_wp2
  go_ret2
  exact ⟨rfl, rfl⟩
theorem ref3_Durable_no (g cb cap : Nat) (D : Dev) (line : Int) (w : World) (hd : RefAt w g cb cap D) (h : line < 0 ∨ (D.lines.length : Int) ≤ line) :
    Calls Try.prog 44 #[.pointer (some ⟨g, 0, none⟩), .int .i64 line] w fun e w' => e = .returned (.tuple #[.slice none 0 0, .int .i64 2]) ∧ w = w' := by
  have HT := Lib.hid (ref3_Has_no g cb cap D line w hd h)
  clear hd h
  go_enter Try.func44, Try.ntmps44
  go_wp2_with fail
  refine (HT.out).mono ?_
  rintro e w' ⟨rfl, rfl⟩
  go_wp2
  go_ret2
  exact ⟨rfl, rfl⟩
set_option maxHeartbeats 400000 in
theorem ref3_Load (g cb cap : Nat) (D : Dev) (i : Nat) (x : Line) (hx : D.lines[i]? = some x) (w : World) (hd : RefAt w g cb cap D) :
    Calls Try.prog 43 #[.pointer (some ⟨g, 0, none⟩), .int .i64 i] w fun e w' => ∃ v, e = .returned (.tuple #[v, .int .i64 0]) ∧ MadeA w x.now v w' := by
  obtain ⟨hi, rfl⟩ := List.getElem?_eq_some_iff.1 hx
  have hc : w.cell? ⟨g, 0, none⟩ = some (.slice (some ⟨cb, 0, none⟩) D.lines.length cap) := hd.cell 0
  have hf := hd.few
  have HT := Lib.hid (ref3_Has_yes g cb cap D i w hd (by omega))
  have hlen := (hd.ok.get hi).1
  have hnow := hd.now hi
  generalize (D.lines[i]).now = l at *
  have hz : (List.replicate 64 (0 : UInt8)).length = l.length := by rw [hlen]; rfl
  have hsz : (Try.prog.info? 69).map (·.size) = some l.length := by rw [hlen]; exact arrSize3
  rw [← hlen] at hnow
  have HX := Lib.hid hnow
  have HL := Lib.hid hsz
  have HZ := Lib.hid hz
  have HN := Lib.hid hlen
  clear hd hx hnow hsz hz hlen
  generalize D.lines.length = m at *
  go_enter Try.func43, Try.ntmps43
  go_wp2_with fail
  refine (HT.out).mono ?_
  rintro e w' ⟨rfl, rfl⟩
  go_wp2_with (first
    | ((with_reducible show wpList _ _ _ (Oper.mk (some 18) _ _ _ _ _ :: _) _ _); refine wpList_load_arr rfl 69 (.tmp 17) rfl cb (i * 193) rfl l HX.out 64 5 Try.underlying69 HL.out ?_)
    | ((with_reducible show wpList _ _ _ (Oper.mk (some 6) _ _ _ _ _ :: _) _ _); refine wpList_alloc_arr rfl 69 rfl _ rowZero3 ?_; intro w1 hb1 ho1 hs1)
    | ((with_reducible show wpList _ _ _ (Oper.mk none _ _ _ _ _ :: _) _ _); refine wpList_store_arr rfl 69 (.tmp 6) (.tmp 18) rfl w.heap.size l rfl rfl _ _ hb1 HZ.out HL.out ?_; intro w6 hb6 ho6 hs6))
  go_ret2
  refine ⟨_, rfl, w.heap.size, by rw [HN.out]; rfl, Arr.bs hb6, Nat.le_refl _, ho1.trans ho6 (by simp)⟩
set_option maxHeartbeats 400000 in
theorem ref3_Durable (g cb cap : Nat) (D : Dev) (i : Nat) (x : Line) (hx : D.lines[i]? = some x) (w : World) (hd : RefAt w g cb cap D) :
    Calls Try.prog 44 #[.pointer (some ⟨g, 0, none⟩), .int .i64 i] w fun e w' => ∃ v, e = .returned (.tuple #[v, .int .i64 0]) ∧ MadeA w x.kept v w' := by
  obtain ⟨hi, rfl⟩ := List.getElem?_eq_some_iff.1 hx
  have hc : w.cell? ⟨g, 0, none⟩ = some (.slice (some ⟨cb, 0, none⟩) D.lines.length cap) := hd.cell 0
  have hf := hd.few
  have HT := Lib.hid (ref3_Has_yes g cb cap D i w hd (by omega))
  have hlen := (hd.ok.get hi).2.1
  have hnow := hd.kept hi
  generalize (D.lines[i]).kept = l at *
  have hz : (List.replicate 64 (0 : UInt8)).length = l.length := by rw [hlen]; rfl
  have hsz : (Try.prog.info? 69).map (·.size) = some l.length := by rw [hlen]; exact arrSize3
  have hnow2 : Bs w (some ⟨cb, i * 193 + 64, none⟩) l.length l := hlen.symm ▸ hnow
  have HX2 := Lib.hid hnow2
  have HL := Lib.hid hsz
  have HZ := Lib.hid hz
  have HN := Lib.hid hlen
  clear hd hx hnow hnow2 hsz hz hlen
  generalize D.lines.length = m at *
  go_enter Try.func44, Try.ntmps44
  go_wp2_with fail
  refine (HT.out).mono ?_
  rintro e w' ⟨rfl, rfl⟩
  go_wp2_with (first
    | ((with_reducible show wpList _ _ _ (Oper.mk (some 18) _ _ _ _ _ :: _) _ _); refine wpList_load_arr rfl 69 (.tmp 17) rfl cb (i * 193 + 64) rfl l HX2.out 64 5 Try.underlying69 HL.out ?_)
    | ((with_reducible show wpList _ _ _ (Oper.mk (some 6) _ _ _ _ _ :: _) _ _); refine wpList_alloc_arr rfl 69 rfl _ rowZero3 ?_; intro w1 hb1 ho1 hs1)
    | ((with_reducible show wpList _ _ _ (Oper.mk none _ _ _ _ _ :: _) _ _); refine wpList_store_arr rfl 69 (.tmp 6) (.tmp 18) rfl w.heap.size l rfl rfl _ _ hb1 HZ.out HL.out ?_; intro w6 hb6 ho6 hs6))
  go_ret2
  refine ⟨_, rfl, w.heap.size, by rw [HN.out]; rfl, Arr.bs hb6, Nat.le_refl _, ho1.trans ho6 (by simp)⟩
theorem set_over (l : List UInt8) (k : Nat) (v : UInt8) (h : k < l.length) : l.set k v = over l k [v] := by
  unfold over
  rw [List.set_eq_take_append_cons_drop, if_pos h]
  simp
section
variable {tD tC : TypeId} {w w' : World} {g cb cap : Nat} {D : Dev}
theorem IsDev.setByte (h : IsDev tD tC w g cb cap D) {i : Nat} (hi : i < D.lines.length) {o : Nat} (ho : o < 64) (v : UInt8) {z : Int} (hz : z = v.toNat) :
    IsDev tD tC (w.setCell ⟨cb, i * 193 + o, none⟩ (.int .u8 z)) g cb cap { D with lines := D.lines.set i { D.lines[i] with now := (D.lines[i]).now.set o v } } ∧ Only [cb] w (w.setCell ⟨cb, i * 193 + o, none⟩ (.int .u8 z)) := by
  subst hz
  have on : Only [cb] w (w.setCell ⟨cb, i * 193 + o, none⟩ (B v)) := (Only.refl [cb] w).setCell (p := ⟨cb, i * 193 + o, none⟩) (.inl (by simp)) _
  obtain ⟨cs, hb, hp⟩ := h.body
  have hs := body_size h.ok hp
  have hi2 : (i + 1) * 193 ≤ D.lines.length * 193 := Nat.mul_le_mul_right _ hi
  have hb2 := hb.set (i * 193 + o) (B v)
  have hok := h.ok.get hi
  rw [set_splice cs _ _ (by omega)] at hb2
  refine ⟨h.write hi (o := o) (vs := [B v]) (by simp; omega) ?_ ?_ cs hp hb2 on, on⟩
  · have := over_cells (D.lines[i]) hok o [v] (by simp; omega)
    rw [set_over _ _ _ (by rw [hok.1]; exact ho)]
    exact this
  · exact ⟨by rw [List.length_set]; exact hok.1, hok.2.1, hok.2.2⟩
end
/-- a line of which some bytes are stored already -/
def stored (x : Line) (a : Nat) (l : List UInt8) (j : Nat) : Line := { x with now := over x.now a (l.take j) }
theorem stored_zero (x : Line) (a : Nat) (l : List UInt8) : stored x a l 0 = x := by
  unfold stored
  rw [List.take_zero, over_nil]
theorem stored_succ (x : Line) (a : Nat) (l : List UInt8) (j : Nat) (h : a + l.length ≤ x.now.length) (hj : j < l.length) : { stored x a l j with now := (stored x a l j).now.set (a + j) (l.getD j 0) } = stored x a l (j + 1) := by
  unfold stored
  simp only
  rw [over_take_succ x.now l a j h hj]
theorem set_set_line (L : List Line) (i : Nat) (x y : Line) : (L.set i x).set i y = L.set i y := List.set_set ..
set_option maxHeartbeats 1000000 in
theorem ref3_Store_any (g cb cap : Nat) (D : Dev) (line pos : Int) (A : Option Addr) (n c : Nat) (l : List UInt8) (w : World) (hd : RefAt w g cb cap D) (hl : Bs w A n l) (hn : n ≤ maxLen) (hsafe : 0 < n → ∀ b off s, A = some ⟨b, off, s⟩ → b ≠ cb)
    (h1 : -9223372036854775808 ≤ pos ∧ pos ≤ 9223372036854775807) :
    Calls Try.prog 40 #[.pointer (some ⟨g, 0, none⟩), .int .i64 line, .int .i64 pos, .slice A n c] w fun e w' => e = .returned (.int .i64 (ansOf (noPlace D.lines.length line pos l.length))) ∧ RefAt w' g cb cap (store1 D line pos l) ∧ Only [g, cb] w w' := by
  have hlen : l.length = n := hl.len
  unfold maxLen at hn
  unfold ansOf store1
  rw [hlen]
  by_cases h : noPlace D.lines.length line pos n
  · rw [if_pos h, if_pos h]
    unfold noPlace at h
    have HD := Lib.hid hd
    have HN := Lib.hid hlen
    by_cases hh : line < 0 ∨ (D.lines.length : Int) ≤ line
    · have HT := Lib.hid (ref3_Has_no g cb cap D line w hd hh)
      clear hd hl h hh hlen hsafe
      go_enter Try.func40, Try.ntmps40
      go_wp2_with fail
      refine (HT.out).mono ?_
      rintro e w' ⟨rfl, rfl⟩
      go_wp2
      go_ret
      exact ⟨rfl, HD.out, Only.refl _ _⟩
    have HT := Lib.hid (ref3_Has_yes g cb cap D line w hd (by omega))
    by_cases hp : pos < 0
    · have q1 : decide (pos < 0) = true := by simpa using hp
      clear hd hl h hh hlen hsafe
      go_enter Try.func40, Try.ntmps40
      go_wp2_with fail
      refine (HT.out).mono ?_
      rintro e w' ⟨rfl, rfl⟩
      go_wp2
      go_ret
      exact ⟨rfl, HD.out, Only.refl _ _⟩
    have q1 : decide (pos < 0) = false := by simpa using hp
    by_cases hp2 : 64 < pos
    · have q2 : decide (64 < pos) = true := by simpa using hp2
      clear hd hl h hh hlen hsafe
      go_enter Try.func40, Try.ntmps40
      go_wp2_with fail
      refine (HT.out).mono ?_
      rintro e w' ⟨rfl, rfl⟩
      go_wp2
      go_ret
      exact ⟨rfl, HD.out, Only.refl _ _⟩
    have q2 : decide (64 < pos) = false := by simpa using hp2
    have q3 : decide (64 - pos < (n : Int)) = true := by rw [decide_eq_true_eq]; omega
    have hp0 : 0 ≤ pos := by omega
    have hp1 : pos ≤ 64 := by omega
    clear hd hl h hh hlen hsafe hp hp2
    go_enter Try.func40, Try.ntmps40
    go_wp2_with fail
    refine (HT.out).mono ?_
    rintro e w' ⟨rfl, rfl⟩
    go_wp2
    go_ret
    exact ⟨rfl, HD.out, Only.refl _ _⟩
  · rw [if_neg h, if_neg h]
    have h' := h
    unfold noPlace at h'
    obtain ⟨i, rfl⟩ := Int.eq_ofNat_of_zero_le (show 0 ≤ line by omega)
    obtain ⟨a, rfl⟩ := Int.eq_ofNat_of_zero_le (show 0 ≤ pos by omega)
    rw [Int.toNat_natCast, Int.toNat_natCast]
    have hi : i < D.lines.length := by omega
    have HT := Lib.hid (ref3_Has_yes g cb cap D i w hd (by omega))
    have q1 : decide ((a : Int) < 0) = false := by rw [decide_eq_false_iff_not]; omega
    have q2 : decide ((64 : Int) < (a : Int)) = false := by rw [decide_eq_false_iff_not]; omega
    have q3 : decide ((64 : Int) - (a : Int) < (n : Int)) = false := by rw [decide_eq_false_iff_not]; omega
    have ha : a + n ≤ 64 := by omega
    have hx := lineOf_get hi
    generalize hxl : lineOf D (i : Int) = x at *
    have hok := hd.ok.get hi
    rw [List.getElem?_eq_getElem hi] at hx
    have hx2 := Option.some.inj hx
    rw [hx2] at hok
    have hf := hd.few
    have HX := Lib.hid hx2
    have HOK := Lib.hid hok
    have HD := Lib.hid hd
    have HB := Lib.hid hl
    have HN := Lib.hid hlen
    have HSF := Lib.hid hsafe
    have hg2 := hd.lt2
    have hne := hd.ne
    obtain ⟨m, hm⟩ : ∃ m, m = D.lines.length := ⟨_, rfl⟩
    rw [← hm] at hi hf
    have HM := Lib.hid hm
    clear h h' hd hl hlen hsafe hok hx hx2 hxl hm
    go_enter Try.func40, Try.ntmps40
    go_wp2_with fail
    refine (HT.out).mono ?_
    rintro e w' ⟨rfl, rfl⟩
    go_wp2
    go_loopw [9] (fun k wr => ∃ j : Nat, j ≤ n ∧ k = .int .i64 j ∧ RefAt wr g cb cap { D with lines := D.lines.set i (stored x a l j) } ∧ Only [cb] w wr) (fun k _ => n - (intOf k).toNat)
    case atStart => exact ⟨0, Nat.zero_le _, rfl, by rw [stored_zero, ← HX.out, List.set_getElem_self]; exact HD.out, Only.refl _ _⟩
    case round =>
      obtain ⟨j, hj, rfl, hd, on⟩ := hrel
      by_cases hlt : j < n
      · have hc0 : wr.cell? ⟨g, 0, none⟩ = some (.slice (some ⟨cb, 0, none⟩) m cap) := by
          rw [hd.cell 0, HM.out]
          simp [headOf]
        obtain ⟨b, off, rfl, hcl⟩ := HB.out.at_ (by omega)
        have hjl : j < l.length := by rw [HN.out]; exact hlt
        have hb0 := hcl j hjl
        have hbc : wr.cell? ⟨b, off + j, none⟩ = some (.int .u8 ((l[j].toNat : Nat) : Int)) := by
          rw [cell_only on (lt_of_cell hb0) (by have := HSF.out (by omega) b off none rfl; simpa using this)]
          exact hb0
        have hil : i < (D.lines.set i (stored x a l j)).length := by rw [List.length_set, ← HM.out]; exact hi
        have hfz := hd.frozen2 (i * 193 + (a + j))
        have hcx := hd.now (i := i) hil
        obtain ⟨b2, off2, e2, hcl2⟩ := hcx.at_ (by omega)
        cases e2
        have hold0 := hcl2 (a + j) (by rw [hcx.len]; omega)
        have ON := Lib.hid on
        have HDR := Lib.hid hd
        have HST := Lib.hid (stored_succ x a l j (by rw [HOK.out.1, HN.out]; exact ha) hjl)
        have HLJ := Lib.hid (show ((l[j].toNat : Nat) : Int) = ((l.getD j 0).toNat : Int) by simp [List.getD, List.getElem?_eq_getElem hjl])
        obtain ⟨yo, hold⟩ : ∃ yo : Value, wr.cell? ⟨cb, i * 193 + (a + j), none⟩ = some yo := ⟨_, hold0⟩
        clear hold0
        clear hd on hcl hb0 hcx hcl2
        generalize l[j].toNat = y at *
        have q8 : ((a : Int) + (j : Int)).toNat = a + j := by omega
        have q6 : (0 : Int) ≤ (a : Int) + (j : Int) := by omega
        have q7 : (a : Int) + (j : Int) < 64 := by omega
        have q5 : IntKind.i64.wrap ((a : Int) + (j : Int)) = (a : Int) + (j : Int) := by rw [IntKind.wrap_i64]; omega
        go_wp2_with fail
        refine wp_region_still_tail 15 (by kernel_rfl) (by kernel_rfl) ?_
        simp only [List.take_succ_cons, List.take_zero, List.drop_succ_cons, List.drop_zero]
        generalize hwd : ({ wr with drawn := wr.drawn + 1 } : World) = wd
        have hc0' : wd.cell? ⟨g, 0, none⟩ = some (.slice (some ⟨cb, 0, none⟩) m cap) := hwd ▸ hc0
        have hbc' : wd.cell? ⟨b, off + j, none⟩ = some (.int .u8 (y : Int)) := hwd ▸ hbc
        have hfz' : wd.frozen? ⟨cb, i * 193 + (a + j), none⟩ = false := hwd ▸ hfz
        have hold' : wd.cell? ⟨cb, i * 193 + (a + j), none⟩ = some yo := hwd ▸ hold
        have hsb := IsDev.setByte (HDR.out.only0 (still_only hwd)) (i := i) hil (o := a + j) (by omega) (l.getD j 0) (z := (y : Int)) HLJ.out
        simp only [List.getElem_set_self, List.set_set] at hsb
        rw [HST.out] at hsb
        have HSB := Lib.hid hsb.1
        have HON := Lib.hid ((ON.out.trans0 (still_only hwd)).trans hsb.2 (by simp))
        clear hwd hc0 hbc hfz hold hsb
        repeat still_step
        refine wpStill_nil ?_
        go_wp2
        go_roundw
        case rel => exact ⟨j + 1, by omega, by go_num, HSB.out, HON.out⟩
        case measure => simp [intOf]; omega
      · obtain rfl : j = n := by omega
        have hfin : stored x a l j = { x with now := over x.now a l } := by
          unfold stored
          rw [List.take_of_length_le (by rw [HN.out]; exact Nat.le_refl _)]
        rw [hfin] at hd
        have hc1 : wr.cell? ⟨g, 1, none⟩ = some (.int .i64 D.stores) := hd.cell 1
        have hf1 := hd.frozen1 1
        have hcnt := IsDev.count (D' := storeD D i x a l) hd 1 (wrap64 (D.stores + 1)) rfl (by unfold storeD headOf; simp)
        have HCN := Lib.hid hcnt
        have ON := Lib.hid on
        clear hd on hfin hcnt
        go_wp2
        go_ret
        exact ⟨rfl, HCN.out.1, (ON.out.mono (by simp)).trans HCN.out.2 (by simp)⟩
end Go.Proofs.Ytkbgoloedlpflaa
/- The contracts of the reference of chapter 3, second part: flush, back. -/
namespace Go.Proofs.Ytkbgoloedlpflaa
open Go.RowKit Go.Proofs.FuMem Go.Proofs.FuNvm Go.Proofs.FuCode
set_option maxRecDepth 100000
set_option maxHeartbeats 1000000 in
theorem ref3_Flush (g cb cap : Nat) (D : Dev) (i : Nat) (x : Line) (hx : D.lines[i]? = some x) (w : World) (hd : RefAt w g cb cap D) :
    Calls Try.prog 46 #[.pointer (some ⟨g, 0, none⟩), .int .i64 i] w fun e w' => e = .returned (.int .i64 0) ∧ RefAt w' g cb cap (flushD D i x) ∧ Only [g, cb] w w' := by
  obtain ⟨hi, rfl⟩ := List.getElem?_eq_some_iff.1 hx
  have hc : w.cell? ⟨g, 0, none⟩ = some (.slice (some ⟨cb, 0, none⟩) D.lines.length cap) := hd.cell 0
  have hf := hd.few
  have HT := Lib.hid (ref3_Has_yes g cb cap D i w hd (by omega))
  have HD := Lib.hid hd
  have hok := hd.ok.get hi
  have hlen := hok.1
  have hsz : (Try.prog.info? 69).map (·.size) = some (D.lines[i]).now.length := by rw [hlen]; exact arrSize3
  have hsz2 : (Try.prog.info? 69).map (·.size) = some ((D.lines[i]).now.map B).toArray.size := by rw [List.size_toArray, List.length_map, hlen]; exact arrSize3
  have hne := hd.ne
  have hne2 := hd.ne.symm
  have HOK := Lib.hid hok
  have HLEN := Lib.hid hlen
  have HS1 := Lib.hid hsz
  have HS2 := Lib.hid hsz2
  clear hok hlen hsz hsz2 hd hx
  go_enter Try.func46, Try.ntmps46
  go_wp2_with fail
  refine (HT.out).mono ?_
  rintro e w' ⟨rfl, rfl⟩
  go_wp2_with fail
  refine wp_region_still_tail 15 (by kernel_rfl) (by kernel_rfl) ?_
  simp only [List.take_succ_cons, List.take_zero, List.drop_succ_cons, List.drop_zero]
  generalize hwd : ({ w with drawn := w.drawn + 1 } : World) = wd
  have hcd : wd.cell? ⟨g, 0, none⟩ = some (.slice (some ⟨cb, 0, none⟩) D.lines.length cap) := hwd ▸ hc
  have ONW := Lib.hid (still_only hwd)
  clear hwd hc
  have HDW := Lib.hid (HD.out.only0 ONW.out)
  have hnow := HDW.out.now hi
  have hnow2 : Bs wd (some ⟨cb, i * 193, none⟩) (D.lines[i]).now.length (D.lines[i]).now := by rw [HLEN.out]; exact hnow
  obtain ⟨cs, hb, hfit, hwr⟩ := IsDev.ready HDW.out hi
  have hft := hfit 128 (D.lines[i]).now HLEN.out (by omega)
  have HWR := Lib.hid (hwr 128 (D.lines[i]).now { D.lines[i] with way := (D.lines[i]).now } (by rw [HLEN.out]; omega) (cells_way _ HOK.out _ HLEN.out) ⟨HOK.out.1, HOK.out.2.1, HOK.out.1⟩)
  clear hfit hwr hnow
  repeat still_step
  refine still_load_arr rfl 69 (.tmp 20) rfl cb (i * 193) rfl (D.lines[i]).now hnow2 64 5 Try.underlying69 HS1.out ?_
  repeat still_step
  refine wpStill_nil ?_
  go_wp2_with ((with_reducible show wpList _ _ _ (Oper.mk none _ _ _ _ _ :: _) _ _); refine wpList_store_blk rfl 69 (.tmp 23) (.tmp 21) rfl cb (i * 193 + 128) ((D.lines[i]).now.map B).toArray rfl rfl 104 cs hb hft HS2.out (all_B _) ?_; intro w2 hb2 ho2 hs2; have hd2 := HWR.out w2 hb2 ho2; have hc2 : w2.cell? ⟨g, 0, none⟩ = some (.slice (some ⟨cb, 0, none⟩) D.lines.length cap) := (by rw [hd2.cell 0]; simp [headOf]); have hcn : w2.cell? ⟨g, 2, none⟩ = some (.int .i64 D.flushes) := hd2.cell 2; have hfn := hd2.frozen1 2; have hsc := hd2.sentCell (i := i) (by simpa using hi); have hfz := hd2.frozen2 (i * 193 + 192); have HD2 := Lib.hid hd2;clear hd2 hb)
  have hsw := IsDev.setSent HD2.out (i := i) (by simpa using hi) true
  have hl2 : ({ { D with lines := D.lines.set i { D.lines[i] with way := (D.lines[i]).now } } with lines := (D.lines.set i { D.lines[i] with way := (D.lines[i]).now }).set i { ((D.lines.set i { D.lines[i] with way := (D.lines[i]).now })[i]'(by simpa using hi)) with sent := true } } : Dev) = { D with lines := D.lines.set i (flushL (D.lines[i])) } := by
    simp [flushL]
  have hd3 := hsw.1
  rw [hl2] at hd3
  have hcnt := IsDev.count (D' := flushD D i (D.lines[i])) hd3 2 (wrap64 (D.flushes + 1)) rfl (by unfold flushD headOf; simp)
  go_ret
  exact ⟨rfl, hcnt.1, ((((ONW.out.mono (T := [g, cb]) (by simp)).trans ho2 (by simp)).trans hsw.2 (by simp))).trans hcnt.2 (by simp)⟩
theorem ref3_Flush_any (g cb cap : Nat) (D : Dev) (line : Int) (w : World) (hd : RefAt w g cb cap D) :
    Calls Try.prog 46 #[.pointer (some ⟨g, 0, none⟩), .int .i64 line] w fun e w' => e = .returned (.int .i64 (ansOf (noPlace D.lines.length line 0 0))) ∧ RefAt w' g cb cap (flush1 D line) ∧ Only [g, cb] w w' := by
  unfold ansOf flush1
  by_cases h : noPlace D.lines.length line 0 0
  · rw [if_pos h, if_pos h]
    unfold noPlace at h
    have HT := Lib.hid (ref3_Has_no g cb cap D line w hd (by omega))
    have HD := Lib.hid hd
    clear hd h
    go_enter Try.func46, Try.ntmps46
    go_wp2_with fail
    refine (HT.out).mono ?_
    rintro e w' ⟨rfl, rfl⟩
    go_wp2
    go_ret
    exact ⟨rfl, HD.out, Only.refl _ _⟩
  · rw [if_neg h, if_neg h]
    have h' := h
    unfold noPlace at h'
    obtain ⟨i, rfl⟩ := Int.eq_ofNat_of_zero_le (show 0 ≤ line by omega)
    rw [Int.toNat_natCast]
    exact ref3_Flush g cb cap D i _ (lineOf_get (by omega)) w hd
set_option maxHeartbeats 1000000 in
theorem ref3_Back (g cb cap : Nat) (D : Dev) (i : Nat) (x : Line) (hx : D.lines[i]? = some x) (w : World) (hd : RefAt w g cb cap D) :
    Calls Try.prog 41 #[.pointer (some ⟨g, 0, none⟩), .int .i64 i] w fun e w' => e = .returned (.int .i64 0) ∧ RefAt w' g cb cap (backD D i x) ∧ Only [g, cb] w w' := by
  obtain ⟨hi, rfl⟩ := List.getElem?_eq_some_iff.1 hx
  have hc : w.cell? ⟨g, 0, none⟩ = some (.slice (some ⟨cb, 0, none⟩) D.lines.length cap) := hd.cell 0
  have hf := hd.few
  have HT := Lib.hid (ref3_Has_yes g cb cap D i w hd (by omega))
  have HD := Lib.hid hd
  have hok := hd.ok.get hi
  have hlen := hok.1
  have hsz : (Try.prog.info? 69).map (·.size) = some (D.lines[i]).now.length := by rw [hlen]; exact arrSize3
  have hsz2 : (Try.prog.info? 69).map (·.size) = some ((D.lines[i]).now.map B).toArray.size := by rw [List.size_toArray, List.length_map, hlen]; exact arrSize3
  have hne := hd.ne
  have hne2 := hd.ne.symm
  have HOK := Lib.hid hok
  have HLEN := Lib.hid hlen
  have HS1 := Lib.hid hsz
  have HS2 := Lib.hid hsz2
  clear hok hlen hsz hsz2 hd hx
  go_enter Try.func41, Try.ntmps41
  go_wp2_with fail
  refine (HT.out).mono ?_
  rintro e w' ⟨rfl, rfl⟩
  go_wp2_with fail
  refine wp_region_still_tail 15 (by kernel_rfl) (by kernel_rfl) ?_
  simp only [List.take_succ_cons, List.take_zero, List.drop_succ_cons, List.drop_zero]
  generalize hwd : ({ w with drawn := w.drawn + 1 } : World) = wd
  have hcd : wd.cell? ⟨g, 0, none⟩ = some (.slice (some ⟨cb, 0, none⟩) D.lines.length cap) := hwd ▸ hc
  have ONW := Lib.hid (still_only hwd)
  clear hwd hc
  have HDW := Lib.hid (HD.out.only0 ONW.out)
  have hnow := HDW.out.now hi
  have hnow2 : Bs wd (some ⟨cb, i * 193, none⟩) (D.lines[i]).now.length (D.lines[i]).now := by rw [HLEN.out]; exact hnow
  obtain ⟨cs, hb, hfit, hwr⟩ := IsDev.ready HDW.out hi
  have hft := hfit 64 (D.lines[i]).now HLEN.out (by omega)
  have HWR := Lib.hid (hwr 64 (D.lines[i]).now { D.lines[i] with kept := (D.lines[i]).now } (by rw [HLEN.out]; omega) (cells_kept _ HOK.out _ HLEN.out) ⟨HOK.out.1, HOK.out.1, HOK.out.2.2⟩)
  clear hfit hwr hnow
  repeat still_step
  refine still_load_arr rfl 69 (.tmp 20) rfl cb (i * 193) rfl (D.lines[i]).now hnow2 64 5 Try.underlying69 HS1.out ?_
  repeat still_step
  refine wpStill_nil ?_
  go_wp2_with ((with_reducible show wpList _ _ _ (Oper.mk none _ _ _ _ _ :: _) _ _); refine wpList_store_blk rfl 69 (.tmp 23) (.tmp 21) rfl cb (i * 193 + 64) ((D.lines[i]).now.map B).toArray rfl rfl 104 cs hb hft HS2.out (all_B _) ?_; intro w2 hb2 ho2 hs2; have hd2 := HWR.out w2 hb2 ho2; have hc2 : w2.cell? ⟨g, 0, none⟩ = some (.slice (some ⟨cb, 0, none⟩) D.lines.length cap) := (by rw [hd2.cell 0]; simp [headOf]); have hcn : w2.cell? ⟨g, 4, none⟩ = some (.int .i64 D.backs) := hd2.cell 4; have hfn := hd2.frozen1 4; have hsc := hd2.sentCell (i := i) (by simpa using hi); have hfz := hd2.frozen2 (i * 193 + 192); have HD2 := Lib.hid hd2;clear hd2 hb)
  have hsw := IsDev.setSent HD2.out (i := i) (by simpa using hi) false
  have hl2 : ({ { D with lines := D.lines.set i { D.lines[i] with kept := (D.lines[i]).now } } with lines := (D.lines.set i { D.lines[i] with kept := (D.lines[i]).now }).set i { ((D.lines.set i { D.lines[i] with kept := (D.lines[i]).now })[i]'(by simpa using hi)) with sent := false } } : Dev) = { D with lines := D.lines.set i (backL (D.lines[i])) } := by
    simp [backL]
  have hd3 := hsw.1
  rw [hl2] at hd3
  have hcnt := IsDev.count (D' := backD D i (D.lines[i])) hd3 4 (wrap64 (D.backs + 1)) rfl (by unfold backD headOf; simp)
  go_ret
  exact ⟨rfl, hcnt.1, ((((ONW.out.mono (T := [g, cb]) (by simp)).trans ho2 (by simp)).trans hsw.2 (by simp))).trans hcnt.2 (by simp)⟩
theorem ref3_Back_any (g cb cap : Nat) (D : Dev) (line : Int) (w : World) (hd : RefAt w g cb cap D) :
    Calls Try.prog 41 #[.pointer (some ⟨g, 0, none⟩), .int .i64 line] w fun e w' => e = .returned (.int .i64 (ansOf (noPlace D.lines.length line 0 0))) ∧ RefAt w' g cb cap (back1 D line) ∧ Only [g, cb] w w' := by
  unfold ansOf back1
  by_cases h : noPlace D.lines.length line 0 0
  · rw [if_pos h, if_pos h]
    unfold noPlace at h
    have HT := Lib.hid (ref3_Has_no g cb cap D line w hd (by omega))
    have HD := Lib.hid hd
    clear hd h
    go_enter Try.func41, Try.ntmps41
    go_wp2_with fail
    refine (HT.out).mono ?_
    rintro e w' ⟨rfl, rfl⟩
    go_wp2
    go_ret
    exact ⟨rfl, HD.out, Only.refl _ _⟩
  · rw [if_neg h, if_neg h]
    have h' := h
    unfold noPlace at h'
    obtain ⟨i, rfl⟩ := Int.eq_ofNat_of_zero_le (show 0 ≤ line by omega)
    rw [Int.toNat_natCast]
    exact ref3_Back g cb cap D i _ (lineOf_get (by omega)) w hd
end Go.Proofs.Ytkbgoloedlpflaa
/- The contracts of the reference of chapter 3, third part: the fence; lines that are loose, lines on their way; a new device. -/
namespace Go.Proofs.Ytkbgoloedlpflaa
open Go.RowKit Go.Proofs.FuMem Go.Proofs.FuNvm Go.Proofs.FuCode
set_option maxRecDepth 100000
set_option maxHeartbeats 2000000 in
theorem ref3_Fence (g cb cap : Nat) (D : Dev) (w : World) (hd : RefAt w g cb cap D) :
    Calls Try.prog 48 #[.pointer (some ⟨g, 0, none⟩)] w fun e w' => e = .returned (.tuple #[]) ∧ RefAt w' g cb cap (fenceD D) ∧ Only [g, cb] w w' := by
  have hf := hd.few
  have hne := hd.ne
  have hne2 := hd.ne.symm
  have HD := Lib.hid hd
  clear hd
  obtain ⟨m, hm⟩ : ∃ m, m = D.lines.length := ⟨_, rfl⟩
  rw [← hm] at hf
  have HM := Lib.hid hm
  clear hm
  go_enter Try.func48, Try.ntmps48
  go_wp2
  go_loopw [2] (fun i wr => ∃ k : Nat, k ≤ m ∧ i = .int .i64 k ∧ RefAt wr g cb cap { D with lines := upTo (fun _ x => fenceL x) D.lines k } ∧ Only [cb] w wr) (fun i _ => m - (intOf i).toNat)
  case atStart => exact ⟨0, Nat.zero_le _, rfl, by rw [upTo_zero]; exact HD.out, Only.refl _ _⟩
  case round =>
    obtain ⟨k, hk, rfl, hd, on⟩ := hrel
    have hcr0 : wr.cell? ⟨g, 0, none⟩ = some (.slice (some ⟨cb, 0, none⟩) m cap) := by
      rw [hd.cell 0]
      simp [headOf, upTo_length, HM.out]
    by_cases hlt : k < m
    · have hkl : k < D.lines.length := by rw [← HM.out]; exact hlt
      have hkl2 : k < (upTo (fun _ x => fenceL x) D.lines k).length := by rw [upTo_length]; exact hkl
      obtain ⟨hq1, hq2⟩ := List.getElem?_eq_some_iff.1 (upTo_get (fun _ x => fenceL x) D.lines k hkl)
      have hsc := hd.sentCell (i := k) hkl2
      simp only [hq2] at hsc
      have hok := HD.out.ok.get hkl
      by_cases hsent : (D.lines[k]).sent = true
      · rw [hsent] at hsc
        have hlen := hok.2.2
        have hsz : (Try.prog.info? 69).map (·.size) = some (D.lines[k]).way.length := by rw [hlen]; exact arrSize3
        have hsz2 : (Try.prog.info? 69).map (·.size) = some ((D.lines[k]).way.map B).toArray.size := by rw [List.size_toArray, List.length_map, hlen]; exact arrSize3
        have hsucc := upTo_succ (fun _ x => fenceL x) D.lines k hkl
        have hfl : fenceL (D.lines[k]) = { D.lines[k] with kept := (D.lines[k]).way, sent := false } := by unfold fenceL; rw [if_pos hsent]
        have HOK := Lib.hid hok
        have HLEN := Lib.hid hlen
        have HS1 := Lib.hid hsz
        have HS2 := Lib.hid hsz2
        have HDR := Lib.hid hd
        have ON := Lib.hid on
        have HQ := Lib.hid hq2
        have HSU := Lib.hid hsucc
        have HFL := Lib.hid hfl
        clear hok hlen hsz hsz2 hd on hq2 hsucc hfl hsent
        go_wp2_with fail
        refine wp_region_still_tail 15 (by kernel_rfl) (by kernel_rfl) ?_
        simp only [List.take_succ_cons, List.take_zero, List.drop_succ_cons, List.drop_zero]
        generalize hwd : ({ wr with drawn := wr.drawn + 1 } : World) = wd
        have hcd : wd.cell? ⟨g, 0, none⟩ = some (.slice (some ⟨cb, 0, none⟩) m cap) := hwd ▸ hcr0
        have ONW := Lib.hid (still_only hwd)
        clear hwd hcr0 hsc
        have HDW := Lib.hid (HDR.out.only0 ONW.out)
        have hway := HDW.out.way (i := k) hkl2
        simp only [HQ.out] at hway
        have hway2 : Bs wd (some ⟨cb, k * 193 + 128, none⟩) (D.lines[k]).way.length (D.lines[k]).way := by rw [HLEN.out]; exact hway
        obtain ⟨cs, hb, hfit, hwr⟩ := IsDev.ready HDW.out (i := k) hkl2
        have hft := hfit 64 (D.lines[k]).way HLEN.out (by omega)
        have HWR := Lib.hid (hwr 64 (D.lines[k]).way { D.lines[k] with kept := (D.lines[k]).way } (by rw [HLEN.out]; omega) (by simp only [HQ.out]; exact cells_kept _ HOK.out _ HLEN.out) ⟨HOK.out.1, HOK.out.2.2, HOK.out.2.2⟩)
        clear hfit hwr hway
        repeat still_step
        refine still_load_arr rfl 69 (.tmp 31) rfl cb (k * 193 + 128) rfl (D.lines[k]).way hway2 64 5 Try.underlying69 HS1.out ?_
        repeat still_step
        refine wpStill_nil ?_
        go_wp2_with ((with_reducible show wpList _ _ _ (Oper.mk none _ _ _ _ _ :: _) _ _); refine wpList_store_blk rfl 69 (.tmp 34) (.tmp 32) rfl cb (k * 193 + 64) ((D.lines[k]).way.map B).toArray rfl rfl 104 cs hb hft HS2.out (all_B _) ?_; intro w2 hb2 ho2 hs2; have hd2 := HWR.out w2 hb2 ho2; have hc2 : w2.cell? ⟨g, 0, none⟩ = some (.slice (some ⟨cb, 0, none⟩) m cap) := (by rw [hd2.cell 0]; simp [headOf, upTo_length, HM.out]); have hsc := hd2.sentCell (i := k) (by simpa using hkl2); have hfz := hd2.frozen2 (k * 193 + 192); simp only [List.getElem_set_self] at hsc; have HD2 := Lib.hid hd2; have HO2 := Lib.hid ho2; clear hd2 hb ho2 hb2)
        have hsw := IsDev.setSent HD2.out (i := k) (by simpa using hkl2) false
        have he : ∀ D' : Dev, D' = { D with lines := upTo (fun _ x => fenceL x) D.lines (k + 1) } → RefAt (w2.setCell ⟨cb, k * 193 + 192, none⟩ (.bool false)) g cb cap D' → RefAt (w2.setCell ⟨cb, k * 193 + 192, none⟩ (.bool false)) g cb cap { D with lines := upTo (fun _ x => fenceL x) D.lines (k + 1) } := by
          rintro D' rfl h
          exact h
        have hd3 := he _ (by
          rw [← HSU.out, HFL.out]
          simp) hsw.1
        have HD3 := Lib.hid hd3
        have ON3 := Lib.hid ((ON.out.trans0 ONW.out).trans (HO2.out.trans hsw.2 (T := [cb]) (by simp)) (by simp))
        clear hd3 he hsw
        go_roundw
        case rel => exact ⟨k + 1, by omega, by go_num, HD3.out, ON3.out⟩
        case measure => simp [intOf]; omega
      · have hs0 : (D.lines[k]).sent = false := by simpa using hsent
        rw [hs0] at hsc
        have hkeep := upTo_keep (fun _ x => fenceL x) D.lines k hkl (by unfold fenceL; rw [if_neg hsent])
        rw [hkeep] at hd
        have HD2 := Lib.hid hd
        have ON := Lib.hid on
        clear hd on hkeep hsent hs0 hq2 hok
        go_wp2
        go_roundw
        case rel => exact ⟨k + 1, by omega, by go_num, HD2.out, ON.out⟩
        case measure => simp [intOf]; omega
    · obtain rfl : k = m := by omega
      have hall : upTo (fun _ x => fenceL x) D.lines k = D.lines.map fenceL := by rw [HM.out, upTo_all, mapIdx_map]
      rw [hall] at hd
      have hc3 : wr.cell? ⟨g, 3, none⟩ = some (.int .i64 D.fences) := hd.cell 3
      have hf3 := hd.frozen1 3
      have hcnt := IsDev.count (D' := fenceD D) hd 3 (wrap64 (D.fences + 1)) rfl (by unfold fenceD headOf; simp)
      have HCN := Lib.hid hcnt
      have ON := Lib.hid on
      clear hd on hall hcnt
      go_wp2
      go_end0
      exact ⟨rfl, HCN.out.1, (ON.out.mono (T := [g, cb]) (by simp)).trans HCN.out.2 (by simp)⟩
theorem neq_arr3 (l k : List UInt8) (hl : l.length = 64) (hk : k.length = 64) (w : World) : (binOp .neq 69 (arrV l) (arrV k)).run Try.prog w = .ok (.bool (l != k)) w := by
  obtain ⟨i0, hi, hz0, hz1, hz2⟩ := info_parts Try.byteInfo
  exact run_neq_arr Try.underlying69 Try.underlying5 i0 hi hz1 l k hl hk w
theorem arrGuard3 : Try.prog.eqGuardType Try.prog.depth 69 = false := by kernel_rfl
theorem ref3_in (A : Option Addr) (n c : Nat) (l : List Int) (x : Int) (w : World) (h : Is w A n l) (hn : n ≤ 1000000) :
    Calls Try.prog 67 #[.slice A n c, .int .i64 x] w fun e w' => e = .returned (.bool (decide (x ∈ l))) ∧ w = w' := by
  have HL := Lib.hid h.len
  have HI := Lib.hid h
  clear h
  go_enter Try.func67, Try.ntmps67
  go_wp2
  go_loop [5] (fun i => ∃ k : Nat, k ≤ n ∧ i = .int .i64 k ∧ x ∉ l.take k) (fun i => n - (intOf i).toNat)
  case atStart => exact ⟨0, Nat.zero_le _, rfl, by simp⟩
  case round =>
    obtain ⟨k, hk, rfl, hno⟩ := hrel
    have HNO := Lib.hid hno
    clear hno
    by_cases hlt : k < n
    · obtain ⟨b, off, rfl, hcl⟩ := HI.out.at_ (by omega)
      have hkl : k < l.length := by rw [HL.out]; exact hlt
      have hc := hcl k hkl
      have hmem : l[k] ∈ l := List.getElem_mem hkl
      have HT := Lib.hid (List.take_succ_eq_append_getElem hkl)
      have HMM := Lib.hid hmem
      clear hcl hmem
      generalize l[k] = u at *
      by_cases hu : u = x
      · have q : (u == x) = true := by simpa using hu
        have hin : decide (x ∈ l) = true := by rw [decide_eq_true_eq, ← hu]; exact HMM.out
        have HIN := Lib.hid hin
        clear hu hin
        go_wp2
        go_ret
        exact ⟨ret_bool HIN.out.symm, rfl⟩
      · have q : (u == x) = false := by simpa using hu
        have HU := Lib.hid hu
        clear hu
        go_wp2
        go_round
        case rel =>
          refine ⟨k + 1, by omega, by go_num, ?_⟩
          rw [HT.out, List.mem_append, List.mem_singleton]
          rintro (h | h)
          · exact HNO.out h
          · exact HU.out h.symm
        case measure => simp [intOf]; omega
    · obtain rfl : k = n := by omega
      have hin : decide (x ∈ l) = false := by
        rw [decide_eq_false_iff_not]
        have := HNO.out
        rwa [List.take_of_length_le (by rw [HL.out]; exact Nat.le_refl _)] at this
      have HIN := Lib.hid hin
      clear hin
      go_wp2
      go_ret
      exact ⟨ret_bool HIN.out.symm, rfl⟩
end Go.Proofs.Ytkbgoloedlpflaa
/- The contracts of the reference of chapter 3, fourth part: the cut; a new device. -/
namespace Go.Proofs.Ytkbgoloedlpflaa
open Go.RowKit Go.Proofs.FuMem Go.Proofs.FuNvm Go.Proofs.FuCode
set_option maxRecDepth 100000
theorem cut_round (D : Dev) (hok : AllOk D.lines) (keep : List Int) (k : Nat) (hkl : k < D.lines.length) : ∃ (x : Line) (U : List Line), upTo (cutL keep) D.lines k = U ∧ U.length = D.lines.length ∧ U[k]? = some x ∧ x.Ok ∧ U.set k (cutL keep k x) = upTo (cutL keep) D.lines (k + 1) ∧ U.set k x = U ∧
    lostTo keep D.lines (k + 1) = if isLost keep k x = true then lostTo keep D.lines k ++ [(k : Int)] else lostTo keep D.lines k := by
  have h := upTo_get (cutL keep) D.lines k hkl
  have hq := (List.getElem?_eq_some_iff.1 h).2
  refine ⟨_, _, rfl, upTo_length _ _ _, h, hok.get hkl, upTo_succ (cutL keep) D.lines k hkl, ?_, lostTo_succ keep D.lines k hkl⟩
  conv => lhs; arg 3; rw [← hq]
  exact List.set_getElem_self _
set_option maxHeartbeats 8000000 in
theorem ref3_Cut (g cb cap : Nat) (D : Dev) (A : Option Addr) (an ac : Nat) (keep : List Int) (w : World) (hd : RefAt w g cb cap D) (hk : Is w A an keep) (han : an ≤ 1000000) (hsafe : 0 < an → ∀ b off s, A = some ⟨b, off, s⟩ → b ≠ g ∧ b ≠ cb) :
    Calls Try.prog 49 #[.pointer (some ⟨g, 0, none⟩), .slice A an ac] w fun e w' => ∃ A' c', e = .returned (.slice A' (lostTo keep D.lines D.lines.length).length c') ∧
      w'.ownsRow w.heap.size 3 1 (.slice A' (lostTo keep D.lines D.lines.length).length c') (lostTo keep D.lines D.lines.length).length ((lostTo keep D.lines D.lines.length).map (.int .i64)) ∧ RefAt w' g cb cap (cutD D keep) ∧ Only [g, cb] w w' := by
  have hf := hd.few
  have hne := hd.ne
  have hne2 := hd.ne.symm
  have hg1 := hd.lt1
  have hg2 := hd.lt2
  have HD := Lib.hid hd
  have HK := Lib.hid hk
  have HSF := Lib.hid hsafe
  clear hd hk hsafe
  obtain ⟨m, hm⟩ : ∃ m, m = D.lines.length := ⟨_, rfl⟩
  rw [← hm] at hf ⊢
  have HM := Lib.hid hm
  clear hm
  obtain ⟨i0, hi, hz0, hz1, hz2⟩ := info_parts Try.intInfo
  have HI := Lib.hid hi
  have HZ0 := Lib.hid hz0
  have HZ1 := Lib.hid hz1
  have HZ2 := Lib.hid hz2
  clear hi hz0 hz1 hz2
  go_enter Try.func49, Try.ntmps49
  go_wp2
  go_loopw [5, 6, 7] (fun v i _ wr => ∃ (k n : Nat), k ≤ m ∧ i = .int .i64 k ∧ n = (lostTo keep D.lines k).length ∧ wr.ownsRow w.heap.size 3 1 v n ((lostTo keep D.lines k).map (.int .i64)) ∧ RefAt wr g cb cap { D with lines := upTo (cutL keep) D.lines k } ∧ Only [g, cb] w wr) (fun _ i _ _ => m - (intOf i).toNat)
  case atStart => exact ⟨0, 0, Nat.zero_le _, rfl, rfl, own_nil _ _ _ _, by rw [upTo_zero]; exact HD.out, Only.refl _ _⟩
  case round =>
    obtain ⟨k, n, hk, rfl, hn, ho, hd, on⟩ := hrel
    have hnk := lostTo_length keep D.lines k
    have hc0 : wr.cell? ⟨g, 0, none⟩ = some (.slice (some ⟨cb, 0, none⟩) m cap) := by
      rw [hd.cell 0]
      simp [headOf, upTo_length, HM.out]
    by_cases hlt : k < m
    · have hkl : k < D.lines.length := by rw [← HM.out]; exact hlt
      obtain ⟨x, U, hU, hUl, hUx, hok, hup, hset, hsu⟩ := cut_round D HD.out.ok keep k hkl
      rw [hU] at hd
      have hkl2 : k < U.length := by rw [hUl]; exact hkl
      have b1 := hd.now (i := k) hkl2
      have b2 := hd.kept (i := k) hkl2
      simp only [(List.getElem?_eq_some_iff.1 hUx).2] at b1 b2
      have hcl : cutL keep k x = (if (x.now != x.kept) = true ∧ (k : Int) ∈ keep then { x with kept := x.now, sent := false } else { x with now := x.kept, sent := false }) := rfl
      have hil : isLost keep k x = ((x.now != x.kept) && !decide ((k : Int) ∈ keep)) := rfl
      have hdx : RefAt wr g cb cap { D with lines := U.set k x } := by rw [hset]; exact hd
      have s1 : (Try.prog.info? 69).map (·.size) = some x.now.length := by rw [hok.1]; exact arrSize3
      have s2 : (Try.prog.info? 69).map (·.size) = some x.kept.length := by rw [hok.2.1]; exact arrSize3
      have hq := neq_arr3 x.now x.kept hok.1 hok.2.1
      have hg := fun (a b : Operand) (w : World) => eqGuard_arr (P := Try.prog) arrGuard3 .neq a b x.now x.kept w
      have c1 : Bs wr (some ⟨cb, k * 193, none⟩) x.now.length x.now := by rw [hok.1]; exact b1
      have c2 : Bs wr (some ⟨cb, k * 193 + 64, none⟩) x.kept.length x.kept := by rw [hok.2.1]; exact b2
      have hkeepw := is_only_pos HK.out on (by intro hp b off s e hb; have := HSF.out hp b off s e; simp at hb; omega)
      have HKW := Lib.hid hkeepw
      have HOK := Lib.hid hok
      have HO := Lib.hid ho
      have ON := Lib.hid on
      have HN := Lib.hid hn
      have HDX := Lib.hid hdx
      have HSU := Lib.hid hsu
      have HUP := Lib.hid hup
      have HCL := Lib.hid hcl
      have HIL := Lib.hid hil
      have S1 := Lib.hid s1
      have S2 := Lib.hid s2
      have C1 := Lib.hid c1
      have C2 := Lib.hid c2
      have HUL := Lib.hid (show U.length = m by rw [hUl, HM.out])
      clear hok ho on hn hd hdx hsu hup hcl hil s1 s2 c1 c2 b1 b2 hkeepw hset hU hUl hUx
      go_wp2_with fail
      refine wp_region_later wr (by kernel_rfl) (by kernel_rfl) ?_
      have hlc := fun (p : Later wr) => Later.cell p hc0
      clear hc0
      repeat (quiet_step (fail))
      refine later_load rfl 69 (.tmp 23) rfl cb (k * 193) rfl x.now C1.out 64 5 Try.underlying69 S1.out ?_
      repeat (quiet_step (fail))
      refine later_load rfl 69 (.tmp 31) rfl cb (k * 193 + 64) rfl x.kept C2.out 64 5 Try.underlying69 S2.out ?_
      repeat (quiet_step (fail))
      repeat (quiet_step (fail))
      refine wpQuiet_nil ?_
      intro _ hw'
      obtain ⟨p, hw''⟩ := hw'
      subst hw''
      have opw := p.only
      have hc0 := hlc p
      generalize p.w = w1 at *
      have HDX := Lib.hid (HDX.out.only0 opw)
      have HO := Lib.hid (own_only HO.out opw (by simp))
      have ON := Lib.hid (ON.out.trans0 opw)
      have HKW := Lib.hid (Is.only0 HKW.out opw)
      have HIN := Lib.hid (fun w (e : w1 = w) => ref3_in A an ac keep (k : Int) w (e ▸ HKW.out) han)
      have hklU : ∀ y : Line, k < (U.set k y).length := fun y => by rw [List.length_set]; exact hkl2
      have HKU := Lib.hid hklU
      clear opw hlc hq hg S1 S2 C1 C2 hklU hkl2
      generalize (x.now != x.kept) = bb at *
      by_cases hbb : bb = true
      · subst hbb
        by_cases hin : (k : Int) ∈ keep
        · have hy := HCL.out
          rw [if_pos ⟨rfl, hin⟩] at hy
          have hl := HIL.out
          rw [decide_eq_true hin] at hl
          have hii := HIN.out
          rw [decide_eq_true hin] at hii
          have HII := Lib.hid hii
          have HLK := Lib.hid hl
          clear hii hl hin
          go_wp2_with (refine (HII.out _ rfl).mono ?_; rintro e w' ⟨rfl, rfl⟩)
          refine wp_region_still_tail 15 (by kernel_rfl) (by kernel_rfl) ?_
          simp only [List.take_succ_cons, List.take_zero, List.drop_succ_cons, List.drop_zero]
          generalize hwd : ({ w1 with drawn := w1.drawn + 1 } : World) = wd7
          have hcd7 : wd7.cell? ⟨g, 0, none⟩ = some (.slice (some ⟨cb, 0, none⟩) m cap) := hwd ▸ hc0
          have ONW7 := Lib.hid (still_only hwd)
          clear hwd hc0
          have HDW7 := Lib.hid (HDX.out.only0 ONW7.out)
          have hsr7 := HDW7.out.now (i := k) (HKU.out _)
          simp only [List.getElem_set_self] at hsr7
          have hle7 : (x.now).length = 64 := HOK.out.1
          have hsr27 : Bs wd7 (some ⟨cb, k * 193, none⟩) (x.now).length (x.now) := by rw [hle7]; exact hsr7
          obtain ⟨cs7, hbk7, hfit7, hwr7⟩ := IsDev.ready HDW7.out (i := k) (HKU.out _)
          have hft7 := hfit7 64 (x.now) hle7 (by omega)
          have HWR7 := Lib.hid (hwr7 64 (x.now) { x with kept := x.now } (by rw [hle7]; omega) (by simp only [List.getElem_set_self]; exact cells_kept _ HOK.out _ hle7) ⟨HOK.out.1, HOK.out.1, HOK.out.2.2⟩)
          have SA7 := Lib.hid (show (Try.prog.info? 69).map (·.size) = some (x.now).length by rw [hle7]; exact arrSize3)
          have SB7 := Lib.hid (show (Try.prog.info? 69).map (·.size) = some ((x.now).map B).toArray.size by rw [List.size_toArray, List.length_map, hle7]; exact arrSize3)
          clear hfit7 hwr7 hsr7 hle7
          repeat still_step
          refine still_load_arr rfl 69 (.tmp 51) rfl cb (k * 193) rfl (x.now) hsr27 64 5 Try.underlying69 SA7.out ?_
          repeat still_step
          refine wpStill_nil ?_
          refine wpList_store_blk rfl 69 (.tmp 54) (.tmp 52) rfl cb (k * 193 + 64) (x.now.map B).toArray rfl rfl 104 cs7 hbk7 hft7 SB7.out (all_B _) ?_
          intro w2 hb2 ho2 hs2
          have hd2 := HWR7.out w2 hb2 ho2
          simp only [List.set_set] at hd2
          have hc0 : w2.cell? ⟨g, 0, none⟩ = some (.slice (some ⟨cb, 0, none⟩) m cap) := by
            rw [hd2.cell 0]
            simp [headOf, HUL.out]
          have HDX := Lib.hid hd2
          have HO := Lib.hid (own_only HO.out ((ONW7.out.mono (T := [cb]) (by simp)).trans ho2 (by simp)) (by intro b hb; have := World.ownsRow.lt HO.out b hb; simp; omega))
          have ON := Lib.hid ((ON.out.trans0 ONW7.out).trans ho2 (by simp))
          clear hd2 hb2 ho2 hbk7 hcd7
          have HCY := Lib.hid (show ({ { x with kept := x.now } with now := ({ x with kept := x.now } : Line).kept, sent := false } : Line) = cutL keep k x by rw [hy])
          clear hy
          have HYO := Lib.hid (show ({ x with kept := x.now } : Line).Ok from ⟨HOK.out.1, HOK.out.1, HOK.out.2.2⟩)
          generalize ({ x with kept := x.now } : Line) = y at *
          go_wp2_with fail
          refine wp_region_still_tail 15 (by kernel_rfl) (by kernel_rfl) ?_
          simp only [List.take_succ_cons, List.take_zero, List.drop_succ_cons, List.drop_zero]
          generalize hwd : ({ w2 with drawn := w2.drawn + 1 } : World) = wd8
          have hcd8 : wd8.cell? ⟨g, 0, none⟩ = some (.slice (some ⟨cb, 0, none⟩) m cap) := hwd ▸ hc0
          have ONW8 := Lib.hid (still_only hwd)
          clear hwd hc0
          have HDW8 := Lib.hid (HDX.out.only0 ONW8.out)
          have hsr8 := HDW8.out.kept (i := k) (HKU.out _)
          simp only [List.getElem_set_self] at hsr8
          have hle8 : (y.kept).length = 64 := HYO.out.2.1
          have hsr28 : Bs wd8 (some ⟨cb, k * 193 + 64, none⟩) (y.kept).length (y.kept) := by rw [hle8]; exact hsr8
          obtain ⟨cs8, hbk8, hfit8, hwr8⟩ := IsDev.ready HDW8.out (i := k) (HKU.out _)
          have hft8 := hfit8 0 (y.kept) hle8 (by omega)
          have HWR8 := Lib.hid (hwr8 0 (y.kept) { y with now := y.kept } (by rw [hle8]; omega) (by simp only [List.getElem_set_self]; exact cells_now _ HYO.out _ hle8) ⟨HYO.out.2.1, HYO.out.2.1, HYO.out.2.2⟩)
          have SA8 := Lib.hid (show (Try.prog.info? 69).map (·.size) = some (y.kept).length by rw [hle8]; exact arrSize3)
          have SB8 := Lib.hid (show (Try.prog.info? 69).map (·.size) = some ((y.kept).map B).toArray.size by rw [List.size_toArray, List.length_map, hle8]; exact arrSize3)
          clear hfit8 hwr8 hsr8 hle8
          repeat still_step
          refine still_load_arr rfl 69 (.tmp 71) rfl cb (k * 193 + 64) rfl (y.kept) hsr28 64 5 Try.underlying69 SA8.out ?_
          repeat still_step
          refine wpStill_nil ?_
          refine wpList_store_blk rfl 69 (.tmp 74) (.tmp 72) rfl cb (k * 193 + 0) (y.kept.map B).toArray rfl rfl 104 cs8 hbk8 hft8 SB8.out (all_B _) ?_
          intro w5 hb5 ho5 hs5
          have hd5 := HWR8.out w5 hb5 ho5
          simp only [List.set_set] at hd5
          have hc5 : w5.cell? ⟨g, 0, none⟩ = some (.slice (some ⟨cb, 0, none⟩) m cap) := by
            rw [hd5.cell 0]
            simp [headOf, HUL.out]
          have hsc5 := hd5.sentCell (i := k) (HKU.out _)
          simp only [List.getElem_set_self] at hsc5
          have hfz5 := hd5.frozen2 (k * 193 + 192)
          have hsw := IsDev.setSent hd5 (i := k) (HKU.out _) false
          simp only [List.getElem_set_self, List.set_set] at hsw
          have hsw1 := hsw.1
          rw [HCY.out, HUP.out] at hsw1
          have HD9 := Lib.hid hsw1
          have HO9 := Lib.hid (own_only HO.out ((((ONW8.out.mono (T := [cb]) (by simp)).trans ho5 (by simp)).trans hsw.2 (by simp))) (by intro b hb; have := World.ownsRow.lt HO.out b hb; simp; omega))
          have ON9 := Lib.hid (((ON.out.trans0 ONW8.out).trans ho5 (by simp)).trans hsw.2 (by simp))
          clear hd5 hb5 ho5 hbk8 hcd8 hsw hsw1
          go_wp2
          go_roundw
          case rel => exact ⟨k + 1, n, by omega, by go_num, by rw [HSU.out, HLK.out]; exact HN.out, by rw [HSU.out, HLK.out]; exact HO9.out, HD9.out, ON9.out⟩
          case measure => simp [intOf]; omega
        · have hy := HCL.out
          rw [if_neg (fun h => hin h.2)] at hy
          have hl := HIL.out
          rw [decide_eq_false hin] at hl
          have hii := HIN.out
          rw [decide_eq_false hin] at hii
          have HII := Lib.hid hii
          have HLK := Lib.hid hl
          have HCY := Lib.hid (show ({ x with now := x.kept, sent := false } : Line) = cutL keep k x by rw [hy])
          have HYO := HOK
          clear hii hl hin hy
          have hln := (HO.out).1
          obtain ⟨A', c', w', hr, ho2, on2, be2⟩ := append_ownB (P := Try.prog) (w1.alloc (.cells #[.int .i64 (k : Int)] 3)) (ON.out.alloc _) 51 51 3 i0 _ 8 Try.underlying51 HI.out HZ0.out HZ1.out HZ2.out rfl _ n _ (World.ownsRow.alloc HO.out _) (some ⟨w1.heap.size, 0, none⟩) 1 1 [.int .i64 (k : Int)] (cell_new1 _ _ _) (ints_new1 _ _) (by have := HN.out; unfold maxLen; omega) (by have := HN.out; omega)
          have al : Only [] w1 (w1.alloc (.cells #[.int .i64 (k : Int)] 3)) := (Only.refl _ _).alloc _
          have HDX := Lib.hid (IsDev.below (HDX.out.only0 al) be2 hg1 hg2)
          have HO := Lib.hid ho2
          have ON := Lib.hid on2
          have hc0 : w'.cell? ⟨g, 0, none⟩ = some (.slice (some ⟨cb, 0, none⟩) m cap) := by
            rw [HDX.out.cell 0]
            simp [headOf, HUL.out]
          clear ho2 on2 be2 al hln
          go_wp2_with (first | (refine (HII.out _ rfl).mono ?_; rintro e w' ⟨rfl, rfl⟩) | (at_builtin; refine wpList_append_run _ rfl (.tmp 56) (.tmp 58) 51 rfl _ _ rfl rfl _ _ hr ?_))
          refine wp_region_still_tail 15 (by kernel_rfl) (by kernel_rfl) ?_
          simp only [List.take_succ_cons, List.take_zero, List.drop_succ_cons, List.drop_zero]
          generalize hwd : ({ w' with drawn := w'.drawn + 1 } : World) = wd8
          have hcd8 : wd8.cell? ⟨g, 0, none⟩ = some (.slice (some ⟨cb, 0, none⟩) m cap) := hwd ▸ hc0
          have ONW8 := Lib.hid (still_only hwd)
          clear hwd hc0
          have HDW8 := Lib.hid (HDX.out.only0 ONW8.out)
          have hsr8 := HDW8.out.kept (i := k) (HKU.out _)
          simp only [List.getElem_set_self] at hsr8
          have hle8 : (x.kept).length = 64 := HYO.out.2.1
          have hsr28 : Bs wd8 (some ⟨cb, k * 193 + 64, none⟩) (x.kept).length (x.kept) := by rw [hle8]; exact hsr8
          obtain ⟨cs8, hbk8, hfit8, hwr8⟩ := IsDev.ready HDW8.out (i := k) (HKU.out _)
          have hft8 := hfit8 0 (x.kept) hle8 (by omega)
          have HWR8 := Lib.hid (hwr8 0 (x.kept) { x with now := x.kept } (by rw [hle8]; omega) (by simp only [List.getElem_set_self]; exact cells_now _ HYO.out _ hle8) ⟨HYO.out.2.1, HYO.out.2.1, HYO.out.2.2⟩)
          have SA8 := Lib.hid (show (Try.prog.info? 69).map (·.size) = some (x.kept).length by rw [hle8]; exact arrSize3)
          have SB8 := Lib.hid (show (Try.prog.info? 69).map (·.size) = some ((x.kept).map B).toArray.size by rw [List.size_toArray, List.length_map, hle8]; exact arrSize3)
          clear hfit8 hwr8 hsr8 hle8
          repeat still_step
          refine still_load_arr rfl 69 (.tmp 71) rfl cb (k * 193 + 64) rfl (x.kept) hsr28 64 5 Try.underlying69 SA8.out ?_
          repeat still_step
          refine wpStill_nil ?_
          refine wpList_store_blk rfl 69 (.tmp 74) (.tmp 72) rfl cb (k * 193 + 0) (x.kept.map B).toArray rfl rfl 104 cs8 hbk8 hft8 SB8.out (all_B _) ?_
          intro w5 hb5 ho5 hs5
          have hd5 := HWR8.out w5 hb5 ho5
          simp only [List.set_set] at hd5
          have hc5 : w5.cell? ⟨g, 0, none⟩ = some (.slice (some ⟨cb, 0, none⟩) m cap) := by
            rw [hd5.cell 0]
            simp [headOf, HUL.out]
          have hsc5 := hd5.sentCell (i := k) (HKU.out _)
          simp only [List.getElem_set_self] at hsc5
          have hfz5 := hd5.frozen2 (k * 193 + 192)
          have hsw := IsDev.setSent hd5 (i := k) (HKU.out _) false
          simp only [List.getElem_set_self, List.set_set] at hsw
          have hsw1 := hsw.1
          rw [HCY.out, HUP.out] at hsw1
          have HD9 := Lib.hid hsw1
          have HO9 := Lib.hid (own_only HO.out ((((ONW8.out.mono (T := [cb]) (by simp)).trans ho5 (by simp)).trans hsw.2 (by simp))) (by intro b hb; have := World.ownsRow.lt HO.out b hb; simp; omega))
          have ON9 := Lib.hid (((ON.out.trans0 ONW8.out).trans ho5 (by simp)).trans hsw.2 (by simp))
          clear hd5 hb5 ho5 hbk8 hcd8 hsw hsw1
          go_wp2
          go_roundw
          case rel => exact ⟨k + 1, n + 1, by omega, by go_num, by rw [HSU.out, HLK.out]; rw [if_pos (by rfl), List.length_append, HN.out]; rfl, by rw [HSU.out, HLK.out]; simpa using HO9.out, HD9.out, ON9.out⟩
          case measure => simp [intOf]; omega
      · have hbf : bb = false := by simpa using hbb
        subst hbf
        have hy := HCL.out
        rw [if_neg (fun h => by cases h.1)] at hy
        have HLK := HIL
        have HCY := Lib.hid (show ({ x with now := x.kept, sent := false } : Line) = cutL keep k x by rw [hy])
        have HYO := HOK
        clear hy hbb
        go_wp2_with fail
        refine wp_region_still_tail 15 (by kernel_rfl) (by kernel_rfl) ?_
        simp only [List.take_succ_cons, List.take_zero, List.drop_succ_cons, List.drop_zero]
        generalize hwd : ({ w1 with drawn := w1.drawn + 1 } : World) = wd8
        have hcd8 : wd8.cell? ⟨g, 0, none⟩ = some (.slice (some ⟨cb, 0, none⟩) m cap) := hwd ▸ hc0
        have ONW8 := Lib.hid (still_only hwd)
        clear hwd hc0
        have HDW8 := Lib.hid (HDX.out.only0 ONW8.out)
        have hsr8 := HDW8.out.kept (i := k) (HKU.out _)
        simp only [List.getElem_set_self] at hsr8
        have hle8 : (x.kept).length = 64 := HYO.out.2.1
        have hsr28 : Bs wd8 (some ⟨cb, k * 193 + 64, none⟩) (x.kept).length (x.kept) := by rw [hle8]; exact hsr8
        obtain ⟨cs8, hbk8, hfit8, hwr8⟩ := IsDev.ready HDW8.out (i := k) (HKU.out _)
        have hft8 := hfit8 0 (x.kept) hle8 (by omega)
        have HWR8 := Lib.hid (hwr8 0 (x.kept) { x with now := x.kept } (by rw [hle8]; omega) (by simp only [List.getElem_set_self]; exact cells_now _ HYO.out _ hle8) ⟨HYO.out.2.1, HYO.out.2.1, HYO.out.2.2⟩)
        have SA8 := Lib.hid (show (Try.prog.info? 69).map (·.size) = some (x.kept).length by rw [hle8]; exact arrSize3)
        have SB8 := Lib.hid (show (Try.prog.info? 69).map (·.size) = some ((x.kept).map B).toArray.size by rw [List.size_toArray, List.length_map, hle8]; exact arrSize3)
        clear hfit8 hwr8 hsr8 hle8
        repeat still_step
        refine still_load_arr rfl 69 (.tmp 71) rfl cb (k * 193 + 64) rfl (x.kept) hsr28 64 5 Try.underlying69 SA8.out ?_
        repeat still_step
        refine wpStill_nil ?_
        refine wpList_store_blk rfl 69 (.tmp 74) (.tmp 72) rfl cb (k * 193 + 0) (x.kept.map B).toArray rfl rfl 104 cs8 hbk8 hft8 SB8.out (all_B _) ?_
        intro w5 hb5 ho5 hs5
        have hd5 := HWR8.out w5 hb5 ho5
        simp only [List.set_set] at hd5
        have hc5 : w5.cell? ⟨g, 0, none⟩ = some (.slice (some ⟨cb, 0, none⟩) m cap) := by
          rw [hd5.cell 0]
          simp [headOf, HUL.out]
        have hsc5 := hd5.sentCell (i := k) (HKU.out _)
        simp only [List.getElem_set_self] at hsc5
        have hfz5 := hd5.frozen2 (k * 193 + 192)
        have hsw := IsDev.setSent hd5 (i := k) (HKU.out _) false
        simp only [List.getElem_set_self, List.set_set] at hsw
        have hsw1 := hsw.1
        rw [HCY.out, HUP.out] at hsw1
        have HD9 := Lib.hid hsw1
        have HO9 := Lib.hid (own_only HO.out ((((ONW8.out.mono (T := [cb]) (by simp)).trans ho5 (by simp)).trans hsw.2 (by simp))) (by intro b hb; have := World.ownsRow.lt HO.out b hb; simp; omega))
        have ON9 := Lib.hid (((ON.out.trans0 ONW8.out).trans ho5 (by simp)).trans hsw.2 (by simp))
        clear hd5 hb5 ho5 hbk8 hcd8 hsw hsw1
        go_wp2
        go_roundw
        case rel => exact ⟨k + 1, n, by omega, by go_num, by rw [HSU.out, HLK.out]; exact HN.out, by rw [HSU.out, HLK.out]; exact HO9.out, HD9.out, ON9.out⟩
        case measure => simp [intOf]; omega
    · obtain rfl : k = m := by omega
      have hall : upTo (cutL keep) D.lines k = D.lines.mapIdx (cutL keep) := by rw [HM.out, upTo_all]
      rw [hall] at hd
      obtain ⟨A', c', rfl, _, _⟩ := own_slice ho
      subst hn
      have hc5 : wr.cell? ⟨g, 5, none⟩ = some (.int .i64 D.cuts) := hd.cell 5
      have hf5 := hd.frozen1 5
      have hcnt := IsDev.count (D' := cutD D keep) hd 5 (wrap64 (D.cuts + 1)) rfl (by unfold cutD headOf; simp)
      have HR5 := Lib.hid (own_only ho hcnt.2 (by intro b hb2; have := World.ownsRow.lt ho b hb2; simp; omega))
      have HCN := Lib.hid hcnt
      have ON := Lib.hid on
      clear hd on hall hcnt ho
      go_wp2
      go_ret
      exact ⟨A', c', rfl, HR5.out, HCN.out.1, ON.out.trans HCN.out.2 (by simp)⟩
theorem lineZero3 : ∃ i z, Try.prog.info? 104 = some i ∧ i.zero = some z ∧ i.size = 193 ∧ z.cells = (cellsOf noLine).toArray ∧ i.bytes = 193 := ⟨_, _, rfl, rfl, rfl, rfl, rfl⟩
set_option maxHeartbeats 1000000 in
theorem ref3_New (n : Nat) (w : World) (h1 : 1 ≤ n) (h2 : n ≤ 258) :
    Calls Try.prog 38 #[.int .i64 n] w fun e w' => ∃ g cb, e = .returned (.tuple #[.pointer (some ⟨g, 0, none⟩), .int .i64 0]) ∧ RefAt w' g cb n (newDev n) ∧ Only [] w w' ∧ w.heap.size ≤ g ∧ w.heap.size ≤ cb := by
  obtain ⟨ci, cz, hi, hz, hs, hc, hby⟩ := lineZero3
  obtain ⟨w1, hr, hb, ho, hg⟩ := make_lines (P := Try.prog) (w := w) 77 104 ci cz Try.underlying77 hi hz hs hc n (by rw [hby]; omega) (by omega)
  have HB := Lib.hid hb
  have HON := Lib.hid ho
  have HG := Lib.hid hg
  clear hb ho hg hi hz hc
  have hh1 : decide ((n : Int) < 1) = false := by go_num
  have hh2 : decide ((258 : Int) < (n : Int)) = false := by go_num
  go_enter Try.func38, Try.ntmps38
  go_wp2
  go_ret2
  have hal : Only [] w1 (w1.alloc (.cells (headOf w.heap.size n (newDev n)) 79)) := (Only.refl _ _).alloc _
  have hln : (newDev n).lines.length = n := List.length_replicate
  have hhd := Blk.new w1 79 (headOf w.heap.size n (newDev n))
  have hg2 := HG.out
  have he : headOf w.heap.size n (newDev n) = #[.slice (some ⟨w.heap.size, 0, none⟩) n n, .int .i64 0, .int .i64 0, .int .i64 0, .int .i64 0, .int .i64 0] := by
    unfold headOf
    rw [hln]
    rfl
  rw [he] at hal
  refine ⟨w1.heap.size, w.heap.size, rfl, ⟨?_, ⟨_, HB.out.only hal (by simp), ?_⟩, by omega, allOk_new n, by omega, by omega⟩, HON.out.trans0 hal, by omega, Nat.le_refl _⟩
  · rw [he] at hhd ⊢
    exact hhd
  · rw [hln]
    unfold newDev
    have := flat_length (allOk_new n)
    rw [List.length_replicate] at this
    exact List.take_of_length_le (by simp [this])
theorem ref3_New_no (n : Int) (w : World) (h : n < 1 ∨ 258 < n) :
    Calls Try.prog 38 #[.int .i64 n] w fun e w' => e = .returned (.tuple #[.pointer none, .int .i64 2]) ∧ w' = w := by
  by_cases h1 : n < 1
  · have hh1 : decide (n < 1) = true := by simpa using h1
    clear h
    go_enter Try.func38, Try.ntmps38
    go_wp2
    go_ret2
    exact ⟨rfl, rfl⟩
  · have h2 : 258 < n := by omega
    have hh1 : decide (n < 1) = false := by simpa using h1
    have hh2 : decide (258 < n) = true := by simpa using h2
    clear h
    go_enter Try.func38, Try.ntmps38
    go_wp2
    go_ret2
    exact ⟨rfl, rfl⟩
end Go.Proofs.Ytkbgoloedlpflaa
/- Lists of numbers that are lent, and looked at again. -/
set_option maxRecDepth 100000
namespace Go.Proofs.Ytkbgoloedlpflaa
open Go.RowKit Go.Proofs.FuMem
def I (x : Int) : Value := .int .i64 x
/-- a lent slice: its block holds the numbers and three marks -/
def LentI (w : World) (g : Nat) (l : List Int) : Prop := Blk w g 3 ((l.map (Value.int .i64)) ++ List.replicate 3 (I (-777))).toArray
def lentITo (l : List Int) (j : Nat) : Array Value := ((l.map (Value.int .i64)) ++ List.replicate j (I (-777)) ++ List.replicate (3 - j) (I 0)).toArray
theorem lentITo_size (l : List Int) (j : Nat) (hj : j ≤ 3) : (lentITo l j).size = l.length + 3 := by simp [lentITo]; omega
theorem lentITo_set (l : List Int) (j : Nat) (hj : j < 3) : (lentITo l j).setIfInBounds (l.length + j) (I (-777)) = lentITo l (j + 1) := by
  apply Array.ext'
  simp only [lentITo, Array.toList_setIfInBounds]
  apply List.ext_getElem
  · simp; omega
  · intro i h1 h2
    simp only [List.getElem_set, List.getElem_append, List.getElem_map, List.getElem_replicate, List.length_map, List.length_append, List.length_replicate]
    repeat' split
    all_goals first | rfl | omega
theorem lentI_start (l : List Int) (n : Nat) : ((Array.replicate (n + 3) (Value.int .i64 0)).toList.take 0 ++ l.map (Value.int .i64) ++ (Array.replicate (n + 3) (Value.int .i64 0)).toList.drop (0 + n)).toArray = lentITo l 0 := by
  simp [lentITo, I]
theorem LentI.is {w : World} {g n : Nat} {l : List Int} (h : LentI w g l) (hl : l.length = n) : Is w (some ⟨g, 0, none⟩) n l := Sl.of_blk h 0 (by simp [← hl]) (by simp [← hl])
end Go.Proofs.Ytkbgoloedlpflaa
/- The contract of code.Put. -/
namespace Go.Proofs.Ytkbgoloedlpflaa
open Go.RowKit Go.Proofs.FuMem Go.Proofs.FuCode
set_option maxRecDepth 100000
/-- bytes and an error handed back -/
def MadeE (w : World) (r : List UInt8 × Nat) (e : Ending) (w' : World) : Prop := ∃ x, e = .returned (.tuple #[x, .int .i64 r.2]) ∧ MadeB w r.1 x w'
theorem madeE_err (w : World) (k : Nat) : MadeE w ([], k) (.returned (.tuple #[.slice none 0 0, .int .i64 k])) w := ⟨_, rfl, none, 0, rfl, own_nil _ _ _ _, Only.refl _ _⟩
theorem byte_shr (v j : Nat) : ((v : Int) / 2 ^ (8 * j) % 256) = ((UInt8.ofNat (v / 256 ^ j % 256)).toNat : Int) := by
  rw [ofNat_mod, pow256]
  simp
theorem over_lay_succ (l : List UInt8) (a j v : Nat) (h : a + j < l.length) : (over l a (lay j v)).set (a + j) (UInt8.ofNat (v / 256 ^ j % 256)) = over l a (lay (j + 1) v) := by
  have := over_snoc l a (lay j v) (UInt8.ofNat (v / 256 ^ j % 256)) (by rw [lay_length]; exact h)
  rw [lay_succ, this, lay_length]
theorem shr_pos {v m : Nat} (h : 256 ^ m ≤ v) : ((v : Int) / 2 ^ (8 * m) != 0) = true := by
  have h0 : 0 < v / 256 ^ m := Nat.div_pos h (Nat.pow_pos (by omega))
  rw [pow256] at h0
  have : (v : Int) / 2 ^ (8 * m) = ((v / 2 ^ (8 * m) : Nat) : Int) := by simp
  rw [bne_iff_ne]
  omega
theorem shr_zero {v m : Nat} (h : v < 256 ^ m) : ((v : Int) / 2 ^ (8 * m) != 0) = false := by
  have h0 : v / 256 ^ m = 0 := Nat.div_eq_of_lt h
  rw [pow256] at h0
  have : (v : Int) / 2 ^ (8 * m) = ((v / 2 ^ (8 * m) : Nat) : Int) := by simp
  rw [this, h0]
  rfl
theorem code_Put (A : Option Addr) (n c : Nat) (l : List UInt8) (at_ k : Int) (v : Nat) (w : World) (h : Bs w A n l) (hn : n ≤ 1000000) (h1 : -9223372036854775808 ≤ at_ ∧ at_ ≤ 9223372036854775807) (h2 : -9223372036854775808 ≤ k ∧ k ≤ 9223372036854775807) (hv : v < 18446744073709551616) :
    Calls Try.prog 68 #[.slice A n c, .int .i64 at_, .int .i64 k, .int .u64 v] w (MadeE w (put l at_ k v)) := by
  have hl := h.len
  have hck := code_check A n c at_ k w (by unfold maxLen; omega) h1 h2
  by_cases hw : wrong n at_ k = 0
  · obtain ⟨hk1, hk2, ha1, ha2⟩ := wrong_zero hw
    obtain ⟨a, rfl⟩ := Int.eq_ofNat_of_zero_le ha1
    obtain ⟨m, rfl⟩ := Int.eq_ofNat_of_zero_le (show 0 ≤ k by omega)
    rw [hw] at hck
    by_cases hbig : 256 ^ m ≤ v
    · have hm : m < 8 := by
        rcases Nat.lt_or_ge m 8 with h8 | h8
        · exact h8
        · have : 256 ^ 8 ≤ 256 ^ m := Nat.pow_le_pow_right (by omega) h8
          omega
      have hp : put l (a : Int) (m : Int) v = ([], 11) := by
        unfold put
        rw [hl, hw, if_neg (by omega), if_pos (by simpa using hbig)]
      have hs := shr_pos hbig
      rw [hp]
      have HC := Lib.hid hck
      clear hck hw hp hbig h hl
      go_enter Try.func68, Try.ntmps68
      go_wp2_with fail
      refine (HC.out).mono ?_
      rintro e w' ⟨rfl, rfl⟩
      go_wp2
      go_ret2
      exact madeE_err _ 11
    · have hp : put l (a : Int) (m : Int) v = (over l a (lay m v), 0) := by
        unfold put
        rw [hl, hw, if_neg (by omega), if_neg (by simpa using hbig)]
        simp
      rw [hp]
      have hs := shr_zero (Nat.lt_of_not_le hbig)
      have hcl := clone_bytes A n c l w h hn
      have HCL := Lib.hid hcl
      have HC := Lib.hid hck
      have HL := Lib.hid hl
      clear hck hw hp hbig h hl hcl
      by_cases hm : m < 8
      all_goals
        go_enter Try.func68, Try.ntmps68
        go_wp2_with fail
        refine (HC.out).mono ?_
        rintro e w' ⟨rfl, rfl⟩
        go_wp2_with fail
        refine HCL.out.mono ?_
        rintro e w1 ⟨_, rfl, A1, c1, rfl, ho, on⟩
        rw [HL.out] at ho ⊢
        obtain ⟨g, rfl, hbg, hgl, ho⟩ := OwnB.of ho (by omega)
        have HO := Lib.hid ho
        have HN := Lib.hid on
        clear ho on
        go_wp2
        go_loopw [12, 32] (fun _ i wr => ∃ j : Nat, j ≤ m ∧ i = .int .i64 j ∧ OwnB 5 wr w.heap.size g n c1 (over l a (lay j v)) ∧ Only [] w wr) (fun _ i _ => m - (intOf i).toNat)
        case atStart => exact ⟨0, Nat.zero_le _, rfl, by rw [show lay 0 v = [] from rfl, over_nil]; exact HO.out, HN.out⟩
        case round =>
          obtain ⟨j, hj, rfl, ho, on⟩ := hrel
          by_cases hlt : j < m
          · have hcell := ho.cell (a + j) (by omega)
            have hfr := ho.frozen (a + j)
            have hst := ho.set (a + j) (byte_shr v j)
            rw [over_lay_succ l a j v (by rw [HL.out]; omega)] at hst
            have on2 := on.setCell (p := ⟨g, a + j, none⟩) (.inr hbg) (.int .u8 ((v : Int) / 2 ^ (8 * j) % 256))
            have H1 := Lib.hid hst
            have H2 := Lib.hid on2
            clear ho on hst on2
            go_wp2
            go_roundw
            case rel => exact ⟨j + 1, by omega, by go_num, H1.out, H2.out⟩
            case measure => simp [intOf]; omega
          · obtain rfl : j = m := by omega
            have H1 := Lib.hid ho
            have H2 := Lib.hid on
            clear ho on
            go_wp2
            go_ret2
            exact ⟨.slice (some ⟨g, 0, none⟩) n c1, rfl, madeB_of H1.out H2.out⟩
  · have hp : put l at_ k v = ([], wrong n at_ k) := by
      unfold put
      rw [hl, if_pos hw]
    rw [hp]
    have hle := wrong_le n at_ k
    generalize wrong n at_ k = e at *
    have hb : ((e : Int) != 0) = true := by rw [bne_iff_ne]; omega
    have HC := Lib.hid hck
    clear hck hw hp h hl
    go_enter Try.func68, Try.ntmps68
    go_wp2_with fail
    refine (HC.out).mono ?_
    rintro e w' ⟨rfl, rfl⟩
    go_wp2
    go_ret2
    exact madeE_err _ _
end Go.Proofs.Ytkbgoloedlpflaa
/- The contracts of code.Get, code.Zeros. -/
namespace Go.Proofs.Ytkbgoloedlpflaa
open Go.RowKit Go.Proofs.FuMem Go.Proofs.FuCode
set_option maxRecDepth 100000
theorem bits_or64 (a b : Nat) (ha : a < 18446744073709551616) (hb : b < 18446744073709551616) : bits .or .u64 (a : Int) (b : Int) = ((a ||| b : Nat) : Int) := by
  have hx : a ||| b < 18446744073709551616 := Nat.or_lt_two_pow (n := 64) ha hb
  show IntKind.u64.wrap ((BitVec.ofInt 64 (a : Int) ||| BitVec.ofInt 64 (b : Int)).toNat : Int) = _
  rw [BitVec.toNat_or, BitVec.ofInt_natCast, BitVec.ofInt_natCast, BitVec.toNat_ofNat, BitVec.toNat_ofNat, Nat.mod_eq_of_lt (by omega), Nat.mod_eq_of_lt (by omega), IntKind.wrap_u64]
  omega
theorem or_step (l : List UInt8) (a j : Nat) (hj : j < 8) (h : a + j < l.length) :
    bits .or .u64 (num ((l.drop a).take j) : Int) (IntKind.u64.wrap (IntKind.u64.wrap (l[a + j].toNat : Int) * 2 ^ (8 * j))) = (num ((l.drop a).take (j + 1)) : Int) := by
  have h2 : j < (l.drop a).length := by simp; omega
  have e := num_take_succ (l.drop a) j h2
  rw [List.getElem_drop] at e
  have hx := num_lt ((l.drop a).take j)
  rw [List.length_take, Nat.min_eq_left (by omega)] at hx
  have hy := l[a + j].toNat_lt
  generalize l[a + j].toNat = y at *
  generalize num ((l.drop a).take j) = x at *
  have hp : 256 ^ (j + 1) ≤ 18446744073709551616 := pow_le8 _ (by omega)
  have h3 : y * 256 ^ j + 256 ^ j ≤ 256 ^ (j + 1) := by
    rw [Nat.pow_succ, Nat.mul_comm y]
    have := Nat.mul_le_mul_left (256 ^ j) (show y + 1 ≤ 256 by omega)
    rw [Nat.mul_add] at this
    omega
  have e1 : IntKind.u64.wrap (IntKind.u64.wrap (y : Int) * 2 ^ (8 * j)) = ((y * 2 ^ (8 * j) : Nat) : Int) := by
    rw [← pow256]
    have : (2 : Int) ^ (8 * j) = ((256 ^ j : Nat) : Int) := by rw [pow256]; simp
    rw [this, IntKind.wrap_u64, IntKind.wrap_u64, show (y : Int) % 18446744073709551616 = y by omega, ← Int.natCast_mul]
    omega
  rw [e1, bits_or64 _ _ (by omega) (by rw [← pow256]; omega), num_or x j y hx, e]
theorem code_Get (A : Option Addr) (n c : Nat) (l : List UInt8) (at_ k : Int) (w : World) (h : Bs w A n l) (hn : n ≤ 1000000) (h1 : -9223372036854775808 ≤ at_ ∧ at_ ≤ 9223372036854775807) (h2 : -9223372036854775808 ≤ k ∧ k ≤ 9223372036854775807) :
    Calls Try.prog 34 #[.slice A n c, .int .i64 at_, .int .i64 k] w fun e w' => e = .returned (.tuple #[.int .u64 (cget l at_ k).1, .int .i64 (cget l at_ k).2]) ∧ w = w' := by
  have hl := h.len
  have hck := code_check A n c at_ k w (by unfold maxLen; omega) h1 h2
  by_cases hw : wrong n at_ k = 0
  · obtain ⟨hk1, hk2, ha1, ha2⟩ := wrong_zero hw
    obtain ⟨a, rfl⟩ := Int.eq_ofNat_of_zero_le ha1
    obtain ⟨m, rfl⟩ := Int.eq_ofNat_of_zero_le (show 0 ≤ k by omega)
    rw [hw] at hck
    have hp : cget l (a : Int) (m : Int) = (num ((l.drop a).take m), 0) := by
      unfold cget
      rw [hl, hw, if_neg (by omega)]
      simp
    rw [hp]
    obtain ⟨b, off, rfl, hcell⟩ := h.at_ (by omega)
    have HL := Lib.hid hl
    have HC := Lib.hid hck
    have HX := Lib.hid hcell
    clear hck hw hp h hl hcell
    go_enter Try.func34, Try.ntmps34
    go_wp2_with fail
    refine (HC.out).mono ?_
    rintro e w' ⟨rfl, rfl⟩
    go_wp2
    go_loop [9, 10, 19] (fun v _ i => ∃ j : Nat, j ≤ m ∧ i = .int .i64 j ∧ v = .int .u64 (num ((l.drop a).take j))) (fun _ _ i => m - (intOf i).toNat)
    case atStart => exact ⟨0, Nat.zero_le _, rfl, rfl⟩
    case round =>
      obtain ⟨j, hj, rfl, rfl⟩ := hrel
      by_cases hlt : j < m
      · have hc1 := HX.out (a + j) (by rw [HL.out]; omega)
        have HS := Lib.hid (or_step l a j (by omega) (by rw [HL.out]; omega))
        go_wp2
        go_round
        case rel => exact ⟨j + 1, by omega, by go_num, by rw [HS.out]⟩
        case measure => simp [intOf]; omega
      · obtain rfl : j = m := by omega
        go_wp2
        go_ret2
        exact ⟨rfl, rfl⟩
  · have hp : cget l at_ k = (0, wrong n at_ k) := by
      unfold cget
      rw [hl, if_pos hw]
    rw [hp]
    have hle := wrong_le n at_ k
    generalize wrong n at_ k = e at *
    have hb : ((e : Int) != 0) = true := by rw [bne_iff_ne]; omega
    have HC := Lib.hid hck
    clear hck hw hp h hl
    go_enter Try.func34, Try.ntmps34
    go_wp2_with fail
    refine (HC.out).mono ?_
    rintro e w' ⟨rfl, rfl⟩
    go_wp2
    go_ret2
    exact ⟨rfl, rfl⟩
end Go.Proofs.Ytkbgoloedlpflaa
/- Exclusive or on bytes. -/
namespace Go.Proofs.FuMem
theorem xor8 (a : UInt8) (j : Nat) (hj : j < 256) : bits .xor .u8 (a.toNat : Int) (j : Int) = ((a ^^^ UInt8.ofNat j).toNat : Int) := by
  have ha := a.toNat_lt
  have hx : a.toNat ^^^ j < 256 := Nat.xor_lt_two_pow (n := 8) ha hj
  show IntKind.u8.wrap ((BitVec.ofInt 8 (a.toNat : Int) ^^^ BitVec.ofInt 8 (j : Int)).toNat : Int) = _
  rw [BitVec.toNat_xor, BitVec.ofInt_natCast, BitVec.ofInt_natCast, BitVec.toNat_ofNat, BitVec.toNat_ofNat, Nat.mod_eq_of_lt (by omega), Nat.mod_eq_of_lt (by omega), IntKind.wrap_u8, UInt8.toNat_xor, UInt8.toNat_ofNat_of_lt' (by simpa using hj)]
  omega
theorem xor8_ne (a : UInt8) (j : Nat) (h0 : 0 < j) (hj : j < 256) : a ^^^ UInt8.ofNat j ≠ a := by
  intro h
  have h2 := congrArg UInt8.toNat h
  rw [UInt8.toNat_xor, UInt8.toNat_ofNat_of_lt' (by simpa using hj)] at h2
  have h3 : (a.toNat ^^^ j) ^^^ a.toNat = a.toNat ^^^ a.toNat := by rw [h2]
  rw [Nat.xor_comm a.toNat j, Nat.xor_assoc, Nat.xor_self, Nat.xor_zero] at h3
  omega
end Go.Proofs.FuMem
/- The contracts of the reference of chapter 2, and of OverBytes. -/
namespace Go.Proofs.Ytkbgoloedlpflaa
open Go.RowKit Go.Proofs.FuMem Go.Proofs.FuCode
set_option maxRecDepth 100000
theorem lay_next (v j y : Nat) (hy : y = v / 256 ^ j) : (lay j v).map B ++ [Value.int .u8 ((y : Int) % 256)] = (lay (j + 1) v).map B := by
  rw [lay_succ, List.map_append, ← hy]
  congr 1
  simp only [List.map_cons, List.map_nil, B, ofNat_mod]
  rw [Int.natCast_emod]
  rfl
theorem one_ints (k : IntKind) (z : Int) : ∀ u ∈ [Value.int k z], u.oneCell' = true := by
  intro u hu
  rw [List.mem_singleton] at hu
  subst hu
  rfl
theorem one_cell (w : World) (t : TypeId) (v : Value) : Sl (w.alloc (.cells #[v] t)) (some ⟨w.heap.size, 0, none⟩) 1 [v] := Sl.of_blk (Blk.new w t #[v]) 0 rfl (by simp)
theorem ref2_Lay (k v : Nat) (w : World) (hk : k ≤ 8) (hv : v < 18446744073709551616) :
    Calls Try.prog 53 #[.int .i64 k, .int .u64 v] w fun e w' => ∃ x, e = .returned x ∧ MadeB w (lay k v) x w' := by
  obtain ⟨i0, hi, hz0, hz1, hz2⟩ := info_parts Try.byteInfo
  have HI := Lib.hid hi
  have HZ0 := Lib.hid hz0
  have HZ1 := Lib.hid hz1
  have HZ2 := Lib.hid hz2
  clear hi hz0 hz1 hz2
  go_enter Try.func53, Try.ntmps53
  go_wp2
  go_loopw [1, 5, 6] (fun x b i wr => ∃ j y : Nat, j ≤ k ∧ i = .int .i64 j ∧ x = .int .u64 (y : Int) ∧ y = v / 256 ^ j ∧ wr.ownsRow w.heap.size 5 1 b j ((lay j v).map B) ∧ Only [] w wr) (fun _ _ i _ => k - (intOf i).toNat)
  case atStart => exact ⟨0, v, Nat.zero_le _, rfl, rfl, by simp, own_nil _ _ _ _, Only.refl _ _⟩
  case round =>
    obtain ⟨j, y, hj, rfl, rfl, hy, ho, on⟩ := hrel
    by_cases hlt : j < k
    · have hyj : y < 18446744073709551616 := by rw [hy]; exact Nat.lt_of_le_of_lt (Nat.div_le_self _ _) hv
      have hq : y / 256 = v / 256 ^ (j + 1) := by rw [Nat.pow_succ, ← Nat.div_div_eq_div_mul, hy]
      have hln := lay_next v j y hy
      obtain ⟨A', c', w', hr, ho2, hs2, on2⟩ := append_own (P := Try.prog) (wr.alloc (.cells #[.int .u8 ((y : Int) % 256)] 5)) (on.alloc _) 22 22 5 i0 _ 1 Try.underlying22 HI.out HZ0.out HZ1.out HZ2.out rfl _ j ((lay j v).map B) (ho.alloc _) (some ⟨wr.heap.size, 0, none⟩) 1 1 [.int .u8 ((y : Int) % 256)] (one_cell _ _ _) (one_ints _ _) (by unfold maxLen; omega) (by omega)
      rw [hln] at ho2
      have H1 := Lib.hid ho2
      have H2 := Lib.hid on2
      have HQ := Lib.hid hq
      clear ho on hq ho2 on2 hs2 hln hy
      go_wp2_with (at_builtin; refine wpList_append_run _ rfl (.tmp 12) (.tmp 15) 22 rfl _ _ rfl rfl _ _ hr ?_)
      go_roundw
      case rel => exact ⟨j + 1, y / 256, by omega, by go_num, by go_num, HQ.out, H1.out, H2.out⟩
      case measure => simp [intOf]; omega
    · obtain rfl : j = k := by omega
      have hl := ho.1
      have hA := own_slice ho
      obtain ⟨A', c', rfl, _, _⟩ := hA
      have H1 := Lib.hid ho
      have H2 := Lib.hid on
      clear ho on hl hy
      go_wp2
      go_ret
      exact ⟨.slice A' j c', rfl, madeB_own (lay_length j v) H1.out H2.out⟩
theorem ref2_Number (A : Option Addr) (n c : Nat) (l : List UInt8) (w : World) (h : Bs w A n l) (hn : n ≤ 8) :
    Calls Try.prog 39 #[.slice A n c] w fun e w' => e = .returned (.int .u64 (num l)) ∧ w = w' := by
  have hl := h.len
  by_cases h0 : n = 0
  · subst h0
    obtain rfl : l = [] := List.eq_nil_of_length_eq_zero hl
    clear h hl
    go_enter Try.func39, Try.ntmps39
    go_wp2
    go_loop [3, 4] (fun v i => v = .int .u64 0 ∧ i = .int .i64 (-1)) (fun _ _ => 0)
    case atStart => exact ⟨rfl, rfl⟩
    case round =>
      obtain ⟨rfl, rfl⟩ := hrel
      go_wp2
      go_ret
      exact ⟨rfl, rfl⟩
  · obtain ⟨b, off, rfl, hcell⟩ := h.at_ (by omega)
    have HX := Lib.hid hcell
    have HL := Lib.hid hl
    have hn0 : 0 < n := by omega
    clear h hcell hl h0
    go_enter Try.func39, Try.ntmps39
    go_wp2
    go_loop [3, 4] (fun v i => ∃ j y : Nat, j ≤ n ∧ i = .int .i64 ((j : Int) - 1) ∧ v = .int .u64 y ∧ y = num (l.drop j)) (fun _ i => (intOf i + 1).toNat)
    case atStart => exact ⟨n, 0, Nat.le_refl _, rfl, rfl, by rw [List.drop_eq_nil_of_le (by rw [HL.out]; omega)]; rfl⟩
    case round =>
      obtain ⟨j, y, hj, rfl, rfl, hy⟩ := hrel
      by_cases hlt : 0 < j
      · obtain ⟨i, rfl⟩ : ∃ i, j = i + 1 := ⟨j - 1, by omega⟩
        have hil : i < l.length := by rw [HL.out]; omega
        have hc1 := HX.out i hil
        have hs := num_cons_drop l i hil
        have hlen : (l.drop (i + 1)).length = n - (i + 1) := by rw [List.length_drop, HL.out]
        have hb := num_lt (l.drop (i + 1))
        have hb2 := num_lt (l.drop i)
        have hlen2 : (l.drop i).length = n - i := by rw [List.length_drop, HL.out]
        rw [hlen2] at hb2
        have hp := pow_le8 (n - i) (by omega)
        have hx := l[i].toNat_lt
        have hyb : y * 256 + l[i].toNat < 18446744073709551616 := by rw [hy, Nat.mul_comm, Nat.add_comm, ← hs]; omega
        have hN : y * 256 + l[i].toNat = num (l.drop i) := by rw [hs, hy]; omega
        generalize l[i].toNat = x at *
        have HN := Lib.hid hN
        clear hs hy hlen hb hb2 hlen2 hp hN
        go_wp2
        go_round
        case rel => exact ⟨i, y * 256 + x, by omega, by go_num, by go_num, HN.out⟩
        case measure => simp [intOf]
      · obtain rfl : j = 0 := by omega
        have HY := Lib.hid hy
        clear hy
        go_wp2
        go_ret
        exact ⟨ret_int (by rw [HY.out, List.drop_zero]), rfl⟩
theorem ref2_Zeros (A : Option Addr) (n c : Nat) (l : List UInt8) (i j : Int) (w : World) (h : Bs w A n l) (hn : n ≤ 1000000) (h1 : -9223372036854775808 ≤ i ∧ i ≤ 9223372036854775807) (h2 : -9223372036854775808 ≤ j ∧ j ≤ 9223372036854775807) :
    Calls Try.prog 54 #[.slice A n c, .int .i64 i, .int .i64 j] w fun e w' => e = .returned (.bool (zeros l i j)) ∧ w = w' := by
  have hl := h.len
  by_cases ha : 0 ≤ i ∧ i ≤ j ∧ j ≤ n
  · obtain ⟨ha1, ha2, ha3⟩ := ha
    obtain ⟨a, rfl⟩ := Int.eq_ofNat_of_zero_le ha1
    obtain ⟨m, rfl⟩ := Int.eq_ofNat_of_zero_le (show 0 ≤ j by omega)
    rw [zeros_in (by omega) (by omega)]
    have HX := Lib.hid h
    have HL := Lib.hid hl
    clear h hl
    go_enter Try.func54, Try.ntmps54
    go_wp2
    go_loop [7] (fun i => ∃ j : Nat, j ≤ m - a ∧ i = .int .i64 ((a : Int) + j) ∧ zall l a j = true) (fun i => m - (intOf i).toNat)
    case atStart => exact ⟨0, Nat.zero_le _, by go_num, rfl⟩
    case round =>
      obtain ⟨j, hj, rfl, hz⟩ := hrel
      have HZ := Lib.hid hz
      clear hz
      by_cases hlt : j < m - a
      · obtain ⟨b, off, rfl, hcell⟩ := HX.out.at_ (by omega)
        have hjl : a + j < l.length := by rw [HL.out]; omega
        obtain ⟨x, hx⟩ : ∃ x, l[a + j]? = some x := ⟨_, List.getElem?_eq_getElem hjl⟩
        have hc1 : w.cell? ⟨b, off + (a + j), none⟩ = some (.int .u8 (x.toNat : Int)) := by
          rw [hcell (a + j) hjl]
          rw [List.getElem?_eq_getElem hjl] at hx
          rw [Option.some.inj hx]
        have HQ := Lib.hid hx
        clear hx hcell
        by_cases h0 : x = 0
        · subst h0
          go_wp2
          go_round
          case rel => exact ⟨j + 1, by omega, by go_num, by rw [zall_succ, HZ.out, HQ.out]; rfl⟩
          case measure => simp [intOf]; omega
        · have hs : ((x.toNat : Int) != 0) = true := by
            rw [bne_iff_ne]
            exact fun e => h0 (UInt8.toNat_inj.1 (Int.ofNat.inj e))
          have HF := Lib.hid (zall_false (b := l) (a := a) hlt (by rw [HQ.out]; simpa using h0))
          clear h0
          go_wp2
          go_ret
          exact ⟨ret_bool HF.out.symm, rfl⟩
      · obtain rfl : j = m - a := by omega
        go_wp2
        go_ret
        exact ⟨ret_bool HZ.out.symm, rfl⟩
  · have hz := zeros_out (b := l) (i := i) (j := j) (by rw [hl]; exact ha)
    rw [hz]
    clear h hl hz
    by_cases h3 : i < 0
    · clear ha
      go_enter Try.func54, Try.ntmps54
      go_wp2
      go_ret
      exact ⟨rfl, rfl⟩
    · by_cases h4 : j < i
      · clear ha
        go_enter Try.func54, Try.ntmps54
        go_wp2
        go_ret
        exact ⟨rfl, rfl⟩
      · have h5 : (n : Int) < j := by omega
        clear ha
        go_enter Try.func54, Try.ntmps54
        go_wp2
        go_ret
        exact ⟨rfl, rfl⟩
/-- what was answered may be written over: nothing else turns -/
theorem law0_OverBytes {w0 : World} (A : Option Addr) (n c : Nat) (l : List UInt8) (w : World) (h : w.ownsRow w0.heap.size 5 1 (.slice A n c) n (l.map B)) (on : Only [] w0 w) (hn : n ≤ 1000000) :
    Calls Try.prog 22 #[.slice A n c] w fun e w' => e = .returned (.tuple #[]) ∧ Only [] w0 w' := by
  obtain ⟨i0, hi, hz0, hz1, hz2⟩ := info_parts Try.byteInfo
  have HI := Lib.hid hi
  have HZ0 := Lib.hid hz0
  have HZ1 := Lib.hid hz1
  have HZ2 := Lib.hid hz2
  have HO := Lib.hid h
  have HN := Lib.hid on
  clear hi hz0 hz1 hz2 h on
  go_enter Try.func22, Try.ntmps22
  go_wp2
  go_loopw [2] (fun i wr => ∃ (j : Nat) (l' : List UInt8), j ≤ n ∧ i = .int .i64 j ∧ wr.ownsRow w0.heap.size 5 1 (.slice A n c) n (l'.map B) ∧ Only [] w0 wr) (fun i _ => n - (intOf i).toNat)
  case atStart => exact ⟨0, l, Nat.zero_le _, rfl, HO.out, HN.out⟩
  case round =>
    obtain ⟨j, l', hj, rfl, ho, on⟩ := hrel
    by_cases hlt : j < n
    · obtain ⟨g, rfl, hbg, hgg, ho⟩ := OwnB.of ho (by omega)
      have hcell := ho.cell j hlt
      have hfr := ho.frozen j
      have hst := ho.set j (xor8 (l'.getD j 0) 255 (by omega))
      have on2 := on.setCell (p := ⟨g, j, none⟩) (.inr hbg) (.int .u8 (bits .xor .u8 ((l'.getD j 0).toNat : Int) ((255 : Nat) : Int)))
      rw [show ((255 : Nat) : Int) = 255 from rfl] at hst on2
      have H1 := Lib.hid hst
      have H2 := Lib.hid on2
      clear ho on hst on2
      generalize l'.set j (l'.getD j 0 ^^^ UInt8.ofNat 255) = l2 at *
      generalize (l'.getD j 0).toNat = x at *
      go_wp2
      go_roundw
      case rel => exact ⟨j + 1, l2, by omega, by go_num, H1.out, H2.out⟩
      case measure => simp [intOf]; omega
    · obtain rfl : j = n := by omega
      obtain ⟨A', c', w', hr, ho2, hs2, on2⟩ := append_own (P := Try.prog) (wr.alloc (.cells #[.int .u8 90] 5)) (on.alloc _) 22 22 5 i0 _ 1 Try.underlying22 HI.out HZ0.out HZ1.out HZ2.out rfl _ j _ (ho.alloc _) (some ⟨wr.heap.size, 0, none⟩) 1 1 [.int .u8 90] (one_cell _ _ _) (one_ints _ _) (by unfold maxLen; omega) (by omega)
      have H2 := Lib.hid on2
      clear ho on hs2 ho2 on2
      go_wp2_with (at_builtin; refine wpList_append_run _ rfl (.tmp 17) (.tmp 18) 22 rfl _ _ rfl rfl _ _ hr ?_)
      go_end0
      exact ⟨rfl, H2.out⟩
end Go.Proofs.Ytkbgoloedlpflaa
/- The walks of the statements on code. -/
namespace Go.Proofs.Ytkbgoloedlpflaa
open Go.RowKit Go.Proofs.FuMem Go.Proofs.FuCode
set_option maxRecDepth 100000
theorem law0_Num (x : Int) (w : World) : Calls Try.prog 12 #[.int .i64 x] w fun e w' => e = .returned (.int .i64 x) ∧ w = w' := by
  go_enter Try.func12, Try.ntmps12
  go_wp2
  go_ret
  exact ⟨rfl, rfl⟩
theorem Lent.only {w w' : World} {S : List Nat} {g : Nat} {l : List UInt8} (h : Lent w g l) (ho : Only S w w') (hs : g ∉ S) : Lent w' g l := (ho.block g h.lt hs).trans h
theorem put_digits : put [0, 0, 0] 1 2 258 = ([0, 2, 1], 0) := by decide +kernel
theorem get_digits : cget [0, 2, 1] 1 2 = (258, 0) := by decide +kernel
theorem three (w : World) (x y z : Int) (a b c : UInt8) (ha : x = a.toNat) (hb : y = b.toNat) (hc : z = c.toNat) : Bs (w.alloc (.cells #[.int .u8 x, .int .u8 y, .int .u8 z] 5)) (some ⟨w.heap.size, 0, none⟩) 3 [a, b, c] := by
  subst ha hb hc
  exact Sl.of_blk (Blk.new w 5 #[.int .u8 (a.toNat : Int), .int .u8 (b.toNat : Int), .int .u8 (c.toNat : Int)]) 0 rfl (by simp)
theorem three' (w : World) (g : Nat) (x y z : Int) (a b c : UInt8) (hg : g = w.heap.size) (ha : x = a.toNat) (hb : y = b.toNat) (hc : z = c.toNat) : Bs (w.alloc (.cells #[.int .u8 x, .int .u8 y, .int .u8 z] 5)) (some ⟨g, 0, none⟩) 3 [a, b, c] := by
  subst hg
  exact three w x y z a b c ha hb hc
theorem awake_put (w : World) : Calls Try.prog 68 #[.slice (some ⟨w.heap.size, 0, none⟩) 3 3, .int .i64 1, .int .i64 2, .int .u64 258] (w.alloc (.cells #[.int .u8 0, .int .u8 0, .int .u8 0] 5)) fun e w' => ∃ A c, e = .returned (.tuple #[.slice A 3 c, .int .i64 0]) ∧ Bs w' A 3 [0, 2, 1] ∧ Only [] w w' := by
  have hp := code_Put _ 3 3 _ 1 2 258 _ (three w 0 0 0 0 0 0 rfl rfl rfl) (by omega) (by omega) (by omega) (by omega)
  rw [put_digits] at hp
  refine hp.mono ?_
  rintro e w1 ⟨_, rfl, A1, c1, rfl, ho, on⟩
  exact ⟨A1, c1, rfl, bs_own ho, ((Only.refl _ _).alloc _).trans0 on⟩
theorem awake_get (w : World) : Calls Try.prog 34 #[.slice (some ⟨w.heap.size, 0, none⟩) 3 3, .int .i64 1, .int .i64 2] (w.alloc (.cells #[.int .u8 0, .int .u8 2, .int .u8 1] 5)) fun e w' => e = .returned (.tuple #[.int .u64 258, .int .i64 0]) ∧ (w.alloc (.cells #[.int .u8 0, .int .u8 2, .int .u8 1] 5)) = w' := by
  have hg := code_Get _ 3 3 _ 1 2 _ (three w 0 2 1 0 2 1 rfl rfl rfl) (by omega) (by omega) (by omega)
  rw [get_digits] at hg
  exact hg
end Go.Proofs.Ytkbgoloedlpflaa
/- Law 3: an act, of both devices. -/
set_option maxRecDepth 100000
namespace Go.Proofs.Ytkbgoloedlpflaa
open Go.RowKit Go.Proofs.FuMem Go.Proofs.FuNvm Go.Proofs.FuCode
/-- an act's fields, in a block of their own -/
def BoxAt (w : World) (g : Nat) (x : Deed) (s : Holds) : Prop := w.cell? ⟨g, 1, none⟩ = some (.int .i64 x.line) ∧ w.cell? ⟨g, 2, none⟩ = some (.int .i64 x.pos) ∧ w.cell? ⟨g, 3, none⟩ = some (.slice s.bA s.bn s.bc) ∧ w.cell? ⟨g, 4, none⟩ = some (.slice s.kA s.kn s.kc)
theorem is_only_pos' {w w' : World} {S : List Nat} {A : Option Addr} {n : Nat} {l : List UInt8} (h : Bs w A n l) (ho : Only S w w') (hs : 0 < n → ∀ b off s, A = some ⟨b, off, s⟩ → b ∉ S) : Bs w' A n l := by
  rcases Nat.eq_zero_or_pos n with rfl | hp
  · have := h.len
    obtain rfl : l = [] := List.length_eq_zero_iff.1 this
    exact Bs.nil _ _
  · exact h.only ho (hs hp)
/-- what was answered is written over: its block alone, and what is new -/
theorem law0_OverInts2 (S : List Nat) (base : Nat) (A : Option Addr) (n c : Nat) (l : List Int) (w : World) (h : w.ownsRow base 3 1 (.slice A n c) n (l.map (.int .i64))) (hbase : base ≤ w.heap.size) (hS : ∀ k, (Value.slice A n c).ownBlock = some k → k ∈ S) (hn : n ≤ 1000000) :
    Calls Try.prog 27 #[.slice A n c] w fun e w' => e = .returned (.tuple #[]) ∧ Only S w w' := by
  obtain ⟨i0, hi, hz0, hz1, hz2⟩ := info_parts Try.intInfo
  have HI := Lib.hid hi
  have HZ0 := Lib.hid hz0
  have HZ1 := Lib.hid hz1
  have HZ2 := Lib.hid hz2
  have HO := Lib.hid h
  have HS := Lib.hid hS
  clear hi hz0 hz1 hz2 h hS
  go_enter Try.func27, Try.ntmps27
  go_wp2
  go_loopw [2] (fun i wr => ∃ (j : Nat) (l' : List Int), j ≤ n ∧ i = .int .i64 j ∧ wr.ownsRow base 3 1 (.slice A n c) n (l'.map (.int .i64)) ∧ Only S w wr) (fun i _ => n - (intOf i).toNat)
  case atStart => exact ⟨0, l, Nat.zero_le _, rfl, HO.out, Only.refl _ _⟩
  case round =>
    obtain ⟨j, l', hj, rfl, ho, on⟩ := hrel
    by_cases hlt : j < n
    · obtain ⟨g, rfl, hbg, hgg, ho⟩ := OwnI.of ho (by omega)
      have hcell := ho.cell j hlt
      have hfr := ho.frozen j
      have hst := ho.set j (-999)
      have on2 := on.setCell (p := ⟨g, j, none⟩) (.inl (HS.out g rfl)) (.int .i64 (-999))
      have H1 := Lib.hid hst
      have H2 := Lib.hid on2
      clear ho on hst on2
      generalize l'.set j (-999) = l2 at *
      generalize l'.getD j 0 = x at *
      go_wp2
      go_roundw
      case rel => exact ⟨j + 1, l2, by omega, by go_num, H1.out, H2.out⟩
      case measure => simp [intOf]; omega
    · obtain rfl : j = n := by omega
      obtain ⟨v', w', hr, ho2, hg2, _⟩ := run_append_sl (P := Try.prog) (wr.alloc (.cells #[.int .i64 (-998)] 3)) base 51 51 3 i0 _ 8 Try.underlying51 HI.out HZ0.out HZ1.out HZ2.out rfl _ j _ (ho.alloc _) (some ⟨wr.heap.size, 0, none⟩) 1 1 [.int .i64 (-998)] (cell_new1 _ _ _) (ints_new1 _ _) (by unfold maxLen; omega) (by omega) (by have := on.size; simp; omega)
      have on2 : Only S w w' := (on.alloc _).trans (Only.of_grown hg2 (S := S) (fun k hk => .inl (HS.out k hk))) (fun b hb => .inl hb)
      have H2 := Lib.hid on2
      clear ho on ho2 hg2 on2
      go_wp2_with (at_builtin; refine wpList_append_run _ rfl (.tmp 12) (.tmp 13) 51 rfl _ _ rfl rfl _ _ hr ?_)
      go_end0
      exact ⟨rfl, H2.out⟩
end Go.Proofs.Ytkbgoloedlpflaa
/- The contracts of package sum and of its reference. -/
namespace Go.Proofs.Ytkbgoloedlpflaa
open Go.RowKit Go.Proofs.FuCrc Go.Proofs.FuMem
set_option maxRecDepth 100000
theorem bits_xor32 (a b : Nat) (ha : a < 4294967296) (hb : b < 4294967296) : bits .xor .u32 (a : Int) (b : Int) = ((a ^^^ b : Nat) : Int) := by
  have hx : a ^^^ b < 4294967296 := xor_lt ha hb
  show IntKind.u32.wrap ((BitVec.ofInt 32 (a : Int) ^^^ BitVec.ofInt 32 (b : Int)).toNat : Int) = _
  rw [BitVec.toNat_xor, BitVec.ofInt_natCast, BitVec.ofInt_natCast, BitVec.toNat_ofNat, BitVec.toNat_ofNat, Nat.mod_eq_of_lt (by omega), Nat.mod_eq_of_lt (by omega), IntKind.wrap_u32]
  omega
theorem xor_turn (a : Nat) (ha : a < 4294967296) : bits .xor .u32 (a : Int) 4294967295 = ((a ^^^ 4294967295 : Nat) : Int) := bits_xor32 a 4294967295 ha (by omega)
theorem bits_and32_1 (a : Nat) (ha : a < 4294967296) : bits .and .u32 (a : Int) 1 = ((a % 2 : Nat) : Int) := by
  show IntKind.u32.wrap ((BitVec.ofInt 32 (a : Int) &&& BitVec.ofInt 32 1).toNat : Int) = _
  rw [BitVec.toNat_and, BitVec.ofInt_natCast, BitVec.toNat_ofNat, Nat.mod_eq_of_lt (by omega), show (BitVec.ofInt 32 1).toNat = 1 from rfl, Nat.and_one_is_mod, IntKind.wrap_u32]
  omega
theorem cb_even {j y : Nat} (h : (((cbits j y : Nat) : Int) % 2 == 0) = true) (hy : y < 4294967296) : ((cbits j y : Nat) : Int) / 2 % 4294967296 = (cbits (j + 1) y : Nat) := by
  have := cbits_lt j hy
  rw [cbits_succ, cbit, if_pos (by simp at h; omega)]
  omega
theorem cb_odd {j y : Nat} (h : (((cbits j y : Nat) : Int) % 2 == 0) = false) (hy : y < 4294967296) : bits .xor .u32 (((cbits j y : Nat) : Int) / 2 % 4294967296) 3988292384 = (cbits (j + 1) y : Nat) := by
  have := cbits_lt j hy
  rw [cbits_succ, cbit, if_neg (by simp at h; omega), show ((cbits j y : Nat) : Int) / 2 % 4294967296 = ((cbits j y / 2 : Nat) : Int) by omega]
  exact bits_xor32 _ 3988292384 (by omega) (by omega)
theorem sum_step (c x : Nat) (w : World) (hc : c < 4294967296) (hx : x < 256) :
    Calls Try.prog 74 #[.int .u32 c, .int .u8 x] w fun e w' => e = .returned (.int .u32 (cstep c x)) ∧ w = w' := by
  have hy : c ^^^ x < 4294967296 := xor_lt hc (by omega)
  go_enter Try.func74, Try.ntmps74
  go_wp2
  go_step3
  go_wp2
  go_step3
  go_wp2
  rw [bits_xor32 c x hc (by omega)]
  go_loop [0, 5] (fun cc k => ∃ j : Nat, j ≤ 8 ∧ k = .int .i64 j ∧ cc = .int .u32 (cbits j (c ^^^ x))) (fun _ k => 8 - (intOf k).toNat)
  case atStart => exact ⟨0, Nat.zero_le _, rfl, rfl⟩
  case round =>
    obtain ⟨j, hj, rfl, rfl⟩ := hrel
    by_cases hlt : j < 8
    · go_wp2
      all_goals
        go_round
        case rel => exact ⟨j + 1, by omega, by go_num, by first | rw [cb_even ‹_› hy] | (rw [cb_odd ‹_› hy])⟩
        case measure => simp [intOf]; omega
    · go_wp2
      obtain rfl : j = 8 := by omega
      go_ret
      exact ⟨rfl, rfl⟩
theorem sum_Add (c : Nat) (A : Option Addr) (n cap : Nat) (l : List UInt8) (w : World) (hc : c < 4294967296) (hb : Bs w A n l) (hn : n ≤ maxLen) :
    Calls Try.prog 64 #[.int .u32 c, .slice A n cap] w fun e w' => e = .returned (.int .u32 (cadd c l)) ∧ w = w' := by
  have hy : c ^^^ 4294967295 < 4294967296 := xor_lt hc (by omega)
  have hl := Lib.hid hb.len
  have HB := Lib.hid hb
  clear hb
  unfold maxLen at hn
  go_enter Try.func64, Try.ntmps64
  go_wp2
  rw [xor_turn c hc]
  go_loop [0, 6, 11] (fun cc _ k => ∃ j : Nat, j ≤ n ∧ k = .int .i64 j ∧ cc = .int .u32 (cfold (c ^^^ 4294967295) (l.take j))) (fun _ _ k => n - (intOf k).toNat)
  case atStart => exact ⟨0, Nat.zero_le _, rfl, rfl⟩
  case round =>
    obtain ⟨j, hj, rfl, rfl⟩ := hrel
    by_cases hlt : j < n
    · obtain ⟨b, off, rfl, hcell⟩ := HB.out.at_ (by omega)
      have hjl : j < l.length := by rw [hl.out]; exact hlt
      have hc1 := hcell j hjl
      have hx := byte_lt l[j]
      have hcl := cfold_lt (l.take j) hy
      have HT := Lib.hid (cfold_take (c ^^^ 4294967295) l j hjl)
      clear hcell
      go_wp2_with (go_at_call 74; refine (sum_step _ _ _ hcl hx).mono ?_; rintro e w' ⟨rfl, rfl⟩)
      go_round
      case rel => exact ⟨j + 1, by omega, by go_num, by rw [HT.out]⟩
      case measure => simp [intOf]; omega
    · go_wp2
      go_ret
      exact ⟨ret_int (by rw [List.take_of_length_le (by rw [hl.out]; omega)]; exact xor_turn _ (cfold_lt l hy)), rfl⟩
theorem sum_Sum (A : Option Addr) (n cap : Nat) (l : List UInt8) (w : World) (hb : Bs w A n l) (hn : n ≤ maxLen) :
    Calls Try.prog 35 #[.slice A n cap] w fun e w' => e = .returned (.int .u32 (crc l)) ∧ w = w' := by
  have HB := Lib.hid hb
  clear hb
  go_enter Try.func35, Try.ntmps35
  go_wp2_with (go_at_call 64; refine (sum_Add 0 _ _ _ l _ (by omega) HB.out hn).mono ?_; rintro e w' ⟨rfl, rfl⟩)
  go_ret
  exact ⟨rfl, rfl⟩
theorem rb_even {j y : Nat} (h : (bits .and .u32 ((cbits j y : Nat) : Int) 1 == 1) = false) (hy : y < 4294967296) : ((cbits j y : Nat) : Int) / 2 % 4294967296 = (cbits (j + 1) y : Nat) := by
  have := cbits_lt j hy
  rw [bits_and32_1 _ this] at h
  exact cb_even (by simp at h ⊢; omega) hy
theorem rb_odd {j y : Nat} (h : (bits .and .u32 ((cbits j y : Nat) : Int) 1 == 1) = true) (hy : y < 4294967296) : bits .xor .u32 (((cbits j y : Nat) : Int) / 2 % 4294967296) 3988292384 = (cbits (j + 1) y : Nat) := by
  have := cbits_lt j hy
  rw [bits_and32_1 _ this] at h
  exact cb_odd (by simp at h ⊢; omega) hy
theorem ref1_step (c x : Nat) (w : World) (hc : c < 4294967296) (hx : x < 256) :
    Calls Try.prog 75 #[.int .u32 c, .int .u8 x] w fun e w' => e = .returned (.int .u32 (cstep c x)) ∧ w = w' := by
  have hy : c ^^^ x < 4294967296 := xor_lt hc (by omega)
  go_enter Try.func75, Try.ntmps75
  go_wp2
  rw [bits_xor32 c x hc (by omega)]
  go_loop [0, 5, 6] (fun cc k _ => ∃ j : Nat, j ≤ 8 ∧ k = .int .i64 j ∧ cc = .int .u32 (cbits j (c ^^^ x))) (fun _ k _ => 8 - (intOf k).toNat)
  case atStart => exact ⟨0, Nat.zero_le _, rfl, rfl⟩
  case round =>
    obtain ⟨j, hj, rfl, rfl⟩ := hrel
    by_cases hlt : j < 8
    · go_wp2
      all_goals
        go_round
        case rel => exact ⟨j + 1, by omega, by go_num, by first | rw [rb_even ‹_› hy] | (rw [rb_odd ‹_› hy])⟩
        case measure => simp [intOf]; omega
    · go_wp2
      obtain rfl : j = 8 := by omega
      go_ret
      exact ⟨rfl, rfl⟩
theorem ref1_Text (s : ByteArray) (w : World) (hn : s.size ≤ maxLen) :
    Calls Try.prog 71 #[.string s] w fun e w' => e = .returned (.int .u32 (crc s.data.toList)) ∧ w = w' := by
  unfold maxLen at hn
  go_enter Try.func71, Try.ntmps71
  go_wp2
  go_loop [3, 4] (fun cc k => ∃ j : Nat, j ≤ s.size ∧ k = .int .i64 j ∧ cc = .int .u32 (cfold 4294967295 (s.data.toList.take j))) (fun _ k => s.size - (intOf k).toNat)
  case atStart => exact ⟨0, Nat.zero_le _, rfl, rfl⟩
  case round =>
    obtain ⟨j, hj, rfl, rfl⟩ := hrel
    by_cases hlt : j < s.size
    · have hjl : j < s.data.toList.length := by simpa using hlt
      have hx := byte_lt s[j]
      have hcl := cfold_lt (s.data.toList.take j) (c := 4294967295) (by omega)
      have HT := Lib.hid (cfold_take 4294967295 s.data.toList j hjl)
      go_wp2_with (go_at_call 75; refine (ref1_step _ _ _ hcl hx).mono ?_; rintro e w' ⟨rfl, rfl⟩)
      go_round
      case rel => exact ⟨j + 1, by omega, by go_num, by rw [HT.out]; rfl⟩
      case measure => simp [intOf]; omega
    · go_wp2
      go_ret
      exact ⟨ret_int (by rw [List.take_of_length_le (by simp; omega)]; exact xor_turn _ (cfold_lt _ (by omega))), rfl⟩
end Go.Proofs.Ytkbgoloedlpflaa
/- The walks of the statements on sum. -/
namespace Go.Proofs.Ytkbgoloedlpflaa
open Go.RowKit Go.Proofs.FuCrc Go.Proofs.FuMem
set_option maxRecDepth 100000
theorem ref1_Sum (A : Option Addr) (n cap : Nat) (l : List UInt8) (w : World) (hb : Bs w A n l) (hn : n ≤ maxLen) :
    Calls Try.prog 55 #[.slice A n cap] w fun e w' => e = .returned (.int .u32 (crc l)) ∧ w = w' := by
  have h1 := run_str (P := Try.prog) Try.underlying22 Try.underlying5 Try.underlying9 hb cap
  have hs : (ByteArray.mk l.toArray).size ≤ maxLen := by rw [show (ByteArray.mk l.toArray).size = l.length from rfl, hb.len]; exact hn
  clear hb
  go_enter Try.func55, Try.ntmps55
  go_wp2_with (go_at_call 71; refine (ref1_Text _ _ hs).mono ?_; rintro e w' ⟨rfl, rfl⟩)
  go_ret
  exact ⟨rfl, rfl⟩
theorem crc_digits : crc [49, 50, 51, 52, 53, 54, 55, 56, 57] = 3421780262 := by decide +kernel
end Go.Proofs.Ytkbgoloedlpflaa
