/- The contracts of the reference of chapter 3, first part: the bounds, the bytes of a line, stores. -/
import Derived.Test.YtfafpggppbolkaaPlay
import Derived.StillTailTactics
namespace Go.Proofs.FuMem
open Go.RowKit
/-- an array is read, in a region that draws its order -/
theorem still_load_arr {P : Program} {w : World} {ops : Array Oper} {rest : List Oper} {o : Oper} {a : Act} {Q : Act → Prop} (hw : Region.wanted o (yielded ops a.tmps) = true) (T : TypeId) (x : Operand) (ho : o.op = .load T x) (b off : Nat)
    (hx : a.eval x = .pointer (some ⟨b, off, none⟩)) (l : List UInt8) (hc : Bs w (some ⟨b, off, none⟩) l.length l) (n : Nat) (e : TypeId) (hu : P.underlying T = some (.array n e)) (hi : (P.info? T).map (·.size) = some l.length)
    (h : wpStill P ops w Q rest (a.put o.dst (arrV l))) : wpStill P ops w Q (o :: rest) a :=
  wpStill_step fun K hK => by
    rw [if_pos hw]
    have hr := run_loadAt_mid (P := P) w b off T (l.map B) _ (Sl.range hc) hu rfl (by simpa using hi)
    unfold Oper.still execOp
    simp only [ho, hx, Sem.run_bind, hr, Result.andThen_ok, Sem.run_pure]
    exact ⟨rfl, hK _ h⟩
theorem still_only {w wd : World} (h : ({ w with drawn := w.drawn + 1 } : World) = wd) : Only [] w wd := by subst h; exact (Only.refl _ _).drew
end Go.Proofs.FuMem
namespace Go.Proofs.Ytfafpggppbolkaa
open Go.RowKit Go.Proofs.FuMem Go.Proofs.FuNvm Go.Proofs.FuCode
set_option maxRecDepth 100000
abbrev RefAt (w : World) (g cb cap : Nat) (D : Dev) : Prop := IsDev 119 127 w g cb cap D
theorem ref3_Has_no (g cb cap : Nat) (D : Dev) (line : Int) (w : World) (hd : RefAt w g cb cap D) (h : line < 0 ∨ (D.lines.length : Int) ≤ line) :
    Calls Try.prog 91 #[.pointer (some ⟨g, 0, none⟩), .int .i64 line] w fun e w' => e = .returned (.bool false) ∧ w = w' := by
  have hc : w.cell? ⟨g, 0, none⟩ = some (.slice (some ⟨cb, 0, none⟩) D.lines.length cap) := hd.cell 0
  have hf := hd.few
  clear hd
  generalize D.lines.length = m at *
  by_cases h1 : line < 0
  · have q1 : decide (0 ≤ line) = false := by rw [decide_eq_false_iff_not]; omega
    clear h
    go_enter Try.func91, Try.ntmps91
    go_wp2
    go_ret
    exact ⟨rfl, rfl⟩
  · have q1 : decide (0 ≤ line) = true := by rw [decide_eq_true_eq]; omega
    have q2 : decide (line < (m : Int)) = false := by rw [decide_eq_false_iff_not]; omega
    clear h h1
    go_enter Try.func91, Try.ntmps91
    go_wp2
    go_ret
    exact ⟨rfl, rfl⟩
theorem ref3_Has_yes (g cb cap : Nat) (D : Dev) (line : Int) (w : World) (hd : RefAt w g cb cap D) (h : 0 ≤ line ∧ line < (D.lines.length : Int)) :
    Calls Try.prog 91 #[.pointer (some ⟨g, 0, none⟩), .int .i64 line] w fun e w' => e = .returned (.bool true) ∧ w = w' := by
  have hc : w.cell? ⟨g, 0, none⟩ = some (.slice (some ⟨cb, 0, none⟩) D.lines.length cap) := hd.cell 0
  have hf := hd.few
  clear hd
  generalize D.lines.length = m at *
  have q1 : decide (0 ≤ line) = true := by rw [decide_eq_true_eq]; omega
  have q2 : decide (line < (m : Int)) = true := by rw [decide_eq_true_eq]; omega
  clear h
  go_enter Try.func91, Try.ntmps91
  go_wp2
  go_ret
  exact ⟨rfl, rfl⟩
theorem rowZero3 : (Try.prog.info? 91).map (·.zero) = some (some (arrV (List.replicate 64 0))) := by kernel_rfl
theorem arrSize3 : (Try.prog.info? 91).map (·.size) = some 64 := by kernel_rfl
/-- bytes in a block of their own -/
def MadeA (w : World) (l : List UInt8) (v : Value) (w' : World) : Prop := ∃ g, v = .slice (some ⟨g, 0, none⟩) l.length l.length ∧ Bs w' (some ⟨g, 0, none⟩) l.length l ∧ w.heap.size ≤ g ∧ Only [] w w'
theorem ref3_Load_no (g cb cap : Nat) (D : Dev) (line : Int) (w : World) (hd : RefAt w g cb cap D) (h : line < 0 ∨ (D.lines.length : Int) ≤ line) :
    Calls Try.prog 85 #[.pointer (some ⟨g, 0, none⟩), .int .i64 line] w fun e w' => e = .returned (.tuple #[.slice none 0 0, .int .i64 2]) ∧ w = w' := by
  have HT := Lib.hid (ref3_Has_no g cb cap D line w hd h)
  clear hd h
  go_enter Try.func85, Try.ntmps85
  go_wp2_with fail
  refine (HT.out).mono ?_
  rintro e w' ⟨rfl, rfl⟩
  go_wp2
  go_ret2
  exact ⟨rfl, rfl⟩
theorem ref3_Durable_no (g cb cap : Nat) (D : Dev) (line : Int) (w : World) (hd : RefAt w g cb cap D) (h : line < 0 ∨ (D.lines.length : Int) ≤ line) :
    Calls Try.prog 86 #[.pointer (some ⟨g, 0, none⟩), .int .i64 line] w fun e w' => e = .returned (.tuple #[.slice none 0 0, .int .i64 2]) ∧ w = w' := by
  have HT := Lib.hid (ref3_Has_no g cb cap D line w hd h)
  clear hd h
  go_enter Try.func86, Try.ntmps86
  go_wp2_with fail
  refine (HT.out).mono ?_
  rintro e w' ⟨rfl, rfl⟩
  go_wp2
  go_ret2
  exact ⟨rfl, rfl⟩
set_option maxHeartbeats 400000 in
theorem ref3_Load (g cb cap : Nat) (D : Dev) (i : Nat) (x : Line) (hx : D.lines[i]? = some x) (w : World) (hd : RefAt w g cb cap D) :
    Calls Try.prog 85 #[.pointer (some ⟨g, 0, none⟩), .int .i64 i] w fun e w' => ∃ v, e = .returned (.tuple #[v, .int .i64 0]) ∧ MadeA w x.now v w' := by
  obtain ⟨hi, rfl⟩ := List.getElem?_eq_some_iff.1 hx
  have hc : w.cell? ⟨g, 0, none⟩ = some (.slice (some ⟨cb, 0, none⟩) D.lines.length cap) := hd.cell 0
  have hf := hd.few
  have HT := Lib.hid (ref3_Has_yes g cb cap D i w hd (by omega))
  have hlen := (hd.ok.get hi).1
  have hnow := hd.now hi
  generalize (D.lines[i]).now = l at *
  have hz : (List.replicate 64 (0 : UInt8)).length = l.length := by rw [hlen]; rfl
  have hsz : (Try.prog.info? 91).map (·.size) = some l.length := by rw [hlen]; exact arrSize3
  rw [← hlen] at hnow
  have HX := Lib.hid hnow
  have HL := Lib.hid hsz
  have HZ := Lib.hid hz
  have HN := Lib.hid hlen
  clear hd hx hnow hsz hz hlen
  generalize D.lines.length = m at *
  go_enter Try.func85, Try.ntmps85
  go_wp2_with fail
  refine (HT.out).mono ?_
  rintro e w' ⟨rfl, rfl⟩
  go_wp2_with (first
    | ((with_reducible show wpList _ _ _ (Oper.mk (some 18) _ _ _ _ _ :: _) _ _); refine wpList_load_arr rfl 91 (.tmp 17) rfl cb (i * 193) rfl l HX.out 64 5 Try.underlying91 HL.out ?_)
    | ((with_reducible show wpList _ _ _ (Oper.mk (some 6) _ _ _ _ _ :: _) _ _); refine wpList_alloc_arr rfl 91 rfl _ rowZero3 ?_; intro w1 hb1 ho1 hs1)
    | ((with_reducible show wpList _ _ _ (Oper.mk none _ _ _ _ _ :: _) _ _); refine wpList_store_arr rfl 91 (.tmp 6) (.tmp 18) rfl w.heap.size l rfl rfl _ _ hb1 HZ.out HL.out ?_; intro w6 hb6 ho6 hs6))
  go_ret2
  refine ⟨_, rfl, w.heap.size, by rw [HN.out]; rfl, Arr.bs hb6, Nat.le_refl _, ho1.trans ho6 (by simp)⟩
set_option maxHeartbeats 400000 in
theorem ref3_Durable (g cb cap : Nat) (D : Dev) (i : Nat) (x : Line) (hx : D.lines[i]? = some x) (w : World) (hd : RefAt w g cb cap D) :
    Calls Try.prog 86 #[.pointer (some ⟨g, 0, none⟩), .int .i64 i] w fun e w' => ∃ v, e = .returned (.tuple #[v, .int .i64 0]) ∧ MadeA w x.kept v w' := by
  obtain ⟨hi, rfl⟩ := List.getElem?_eq_some_iff.1 hx
  have hc : w.cell? ⟨g, 0, none⟩ = some (.slice (some ⟨cb, 0, none⟩) D.lines.length cap) := hd.cell 0
  have hf := hd.few
  have HT := Lib.hid (ref3_Has_yes g cb cap D i w hd (by omega))
  have hlen := (hd.ok.get hi).2.1
  have hnow := hd.kept hi
  generalize (D.lines[i]).kept = l at *
  have hz : (List.replicate 64 (0 : UInt8)).length = l.length := by rw [hlen]; rfl
  have hsz : (Try.prog.info? 91).map (·.size) = some l.length := by rw [hlen]; exact arrSize3
  have hnow2 : Bs w (some ⟨cb, i * 193 + 64, none⟩) l.length l := hlen.symm ▸ hnow
  have HX2 := Lib.hid hnow2
  have HL := Lib.hid hsz
  have HZ := Lib.hid hz
  have HN := Lib.hid hlen
  clear hd hx hnow hnow2 hsz hz hlen
  generalize D.lines.length = m at *
  go_enter Try.func86, Try.ntmps86
  go_wp2_with fail
  refine (HT.out).mono ?_
  rintro e w' ⟨rfl, rfl⟩
  go_wp2_with (first
    | ((with_reducible show wpList _ _ _ (Oper.mk (some 18) _ _ _ _ _ :: _) _ _); refine wpList_load_arr rfl 91 (.tmp 17) rfl cb (i * 193 + 64) rfl l HX2.out 64 5 Try.underlying91 HL.out ?_)
    | ((with_reducible show wpList _ _ _ (Oper.mk (some 6) _ _ _ _ _ :: _) _ _); refine wpList_alloc_arr rfl 91 rfl _ rowZero3 ?_; intro w1 hb1 ho1 hs1)
    | ((with_reducible show wpList _ _ _ (Oper.mk none _ _ _ _ _ :: _) _ _); refine wpList_store_arr rfl 91 (.tmp 6) (.tmp 18) rfl w.heap.size l rfl rfl _ _ hb1 HZ.out HL.out ?_; intro w6 hb6 ho6 hs6))
  go_ret2
  refine ⟨_, rfl, w.heap.size, by rw [HN.out]; rfl, Arr.bs hb6, Nat.le_refl _, ho1.trans ho6 (by simp)⟩
theorem set_over (l : List UInt8) (k : Nat) (v : UInt8) (h : k < l.length) : l.set k v = over l k [v] := by
  unfold over
  rw [List.set_eq_take_append_cons_drop, if_pos h]
  simp
section
variable {tD tC : TypeId} {w w' : World} {g cb cap : Nat} {D : Dev}
theorem IsDev.setByte (h : IsDev tD tC w g cb cap D) {i : Nat} (hi : i < D.lines.length) {o : Nat} (ho : o < 64) (v : UInt8) {z : Int} (hz : z = v.toNat) :
    IsDev tD tC (w.setCell ⟨cb, i * 193 + o, none⟩ (.int .u8 z)) g cb cap { D with lines := D.lines.set i { D.lines[i] with now := (D.lines[i]).now.set o v } } ∧ Only [cb] w (w.setCell ⟨cb, i * 193 + o, none⟩ (.int .u8 z)) := by
  subst hz
  have on : Only [cb] w (w.setCell ⟨cb, i * 193 + o, none⟩ (B v)) := (Only.refl [cb] w).setCell (p := ⟨cb, i * 193 + o, none⟩) (.inl (by simp)) _
  obtain ⟨cs, hb, hp⟩ := h.body
  have hs := body_size h.ok hp
  have hi2 : (i + 1) * 193 ≤ D.lines.length * 193 := Nat.mul_le_mul_right _ hi
  have hb2 := hb.set (i * 193 + o) (B v)
  have hok := h.ok.get hi
  rw [set_splice cs _ _ (by omega)] at hb2
  refine ⟨h.write hi (o := o) (vs := [B v]) (by simp; omega) ?_ ?_ cs hp hb2 on, on⟩
  · have := over_cells (D.lines[i]) hok o [v] (by simp; omega)
    rw [set_over _ _ _ (by rw [hok.1]; exact ho)]
    exact this
  · exact ⟨by rw [List.length_set]; exact hok.1, hok.2.1, hok.2.2⟩
end
/-- a line of which some bytes are stored already -/
def stored (x : Line) (a : Nat) (l : List UInt8) (j : Nat) : Line := { x with now := over x.now a (l.take j) }
theorem stored_zero (x : Line) (a : Nat) (l : List UInt8) : stored x a l 0 = x := by
  unfold stored
  rw [List.take_zero, over_nil]
theorem stored_succ (x : Line) (a : Nat) (l : List UInt8) (j : Nat) (h : a + l.length ≤ x.now.length) (hj : j < l.length) : { stored x a l j with now := (stored x a l j).now.set (a + j) (l.getD j 0) } = stored x a l (j + 1) := by
  unfold stored
  simp only
  rw [over_take_succ x.now l a j h hj]
theorem set_set_line (L : List Line) (i : Nat) (x y : Line) : (L.set i x).set i y = L.set i y := List.set_set ..
set_option maxHeartbeats 1000000 in
theorem ref3_Store_any (g cb cap : Nat) (D : Dev) (line pos : Int) (A : Option Addr) (n c : Nat) (l : List UInt8) (w : World) (hd : RefAt w g cb cap D) (hl : Bs w A n l) (hn : n ≤ maxLen) (hsafe : 0 < n → ∀ b off s, A = some ⟨b, off, s⟩ → b ≠ cb)
    (h1 : -9223372036854775808 ≤ pos ∧ pos ≤ 9223372036854775807) :
    Calls Try.prog 59 #[.pointer (some ⟨g, 0, none⟩), .int .i64 line, .int .i64 pos, .slice A n c] w fun e w' => e = .returned (.int .i64 (ansOf (noPlace D.lines.length line pos l.length))) ∧ RefAt w' g cb cap (store1 D line pos l) ∧ Only [g, cb] w w' := by
  have hlen : l.length = n := hl.len
  unfold maxLen at hn
  unfold ansOf store1
  rw [hlen]
  by_cases h : noPlace D.lines.length line pos n
  · rw [if_pos h, if_pos h]
    unfold noPlace at h
    have HD := Lib.hid hd
    have HN := Lib.hid hlen
    by_cases hh : line < 0 ∨ (D.lines.length : Int) ≤ line
    · have HT := Lib.hid (ref3_Has_no g cb cap D line w hd hh)
      clear hd hl h hh hlen hsafe
      go_enter Try.func59, Try.ntmps59
      go_wp2_with fail
      refine (HT.out).mono ?_
      rintro e w' ⟨rfl, rfl⟩
      go_wp2
      go_ret
      exact ⟨rfl, HD.out, Only.refl _ _⟩
    have HT := Lib.hid (ref3_Has_yes g cb cap D line w hd (by omega))
    by_cases hp : pos < 0
    · have q1 : decide (pos < 0) = true := by simpa using hp
      clear hd hl h hh hlen hsafe
      go_enter Try.func59, Try.ntmps59
      go_wp2_with fail
      refine (HT.out).mono ?_
      rintro e w' ⟨rfl, rfl⟩
      go_wp2
      go_ret
      exact ⟨rfl, HD.out, Only.refl _ _⟩
    have q1 : decide (pos < 0) = false := by simpa using hp
    by_cases hp2 : 64 < pos
    · have q2 : decide (64 < pos) = true := by simpa using hp2
      clear hd hl h hh hlen hsafe
      go_enter Try.func59, Try.ntmps59
      go_wp2_with fail
      refine (HT.out).mono ?_
      rintro e w' ⟨rfl, rfl⟩
      go_wp2
      go_ret
      exact ⟨rfl, HD.out, Only.refl _ _⟩
    have q2 : decide (64 < pos) = false := by simpa using hp2
    have q3 : decide (64 - pos < (n : Int)) = true := by rw [decide_eq_true_eq]; omega
    have hp0 : 0 ≤ pos := by omega
    have hp1 : pos ≤ 64 := by omega
    clear hd hl h hh hlen hsafe hp hp2
    go_enter Try.func59, Try.ntmps59
    go_wp2_with fail
    refine (HT.out).mono ?_
    rintro e w' ⟨rfl, rfl⟩
    go_wp2
    go_ret
    exact ⟨rfl, HD.out, Only.refl _ _⟩
  · rw [if_neg h, if_neg h]
    have h' := h
    unfold noPlace at h'
    obtain ⟨i, rfl⟩ := Int.eq_ofNat_of_zero_le (show 0 ≤ line by omega)
    obtain ⟨a, rfl⟩ := Int.eq_ofNat_of_zero_le (show 0 ≤ pos by omega)
    rw [Int.toNat_natCast, Int.toNat_natCast]
    have hi : i < D.lines.length := by omega
    have HT := Lib.hid (ref3_Has_yes g cb cap D i w hd (by omega))
    have q1 : decide ((a : Int) < 0) = false := by rw [decide_eq_false_iff_not]; omega
    have q2 : decide ((64 : Int) < (a : Int)) = false := by rw [decide_eq_false_iff_not]; omega
    have q3 : decide ((64 : Int) - (a : Int) < (n : Int)) = false := by rw [decide_eq_false_iff_not]; omega
    have ha : a + n ≤ 64 := by omega
    have hx := lineOf_get hi
    generalize hxl : lineOf D (i : Int) = x at *
    have hok := hd.ok.get hi
    rw [List.getElem?_eq_getElem hi] at hx
    have hx2 := Option.some.inj hx
    rw [hx2] at hok
    have hf := hd.few
    have HX := Lib.hid hx2
    have HOK := Lib.hid hok
    have HD := Lib.hid hd
    have HB := Lib.hid hl
    have HN := Lib.hid hlen
    have HSF := Lib.hid hsafe
    have hg2 := hd.lt2
    have hne := hd.ne
    obtain ⟨m, hm⟩ : ∃ m, m = D.lines.length := ⟨_, rfl⟩
    rw [← hm] at hi hf
    have HM := Lib.hid hm
    clear h h' hd hl hlen hsafe hok hx hx2 hxl hm
    go_enter Try.func59, Try.ntmps59
    go_wp2_with fail
    refine (HT.out).mono ?_
    rintro e w' ⟨rfl, rfl⟩
    go_wp2
    go_loopw [9] (fun k wr => ∃ j : Nat, j ≤ n ∧ k = .int .i64 j ∧ RefAt wr g cb cap { D with lines := D.lines.set i (stored x a l j) } ∧ Only [cb] w wr) (fun k _ => n - (intOf k).toNat)
    case atStart => exact ⟨0, Nat.zero_le _, rfl, by rw [stored_zero, ← HX.out, List.set_getElem_self]; exact HD.out, Only.refl _ _⟩
    case round =>
      obtain ⟨j, hj, rfl, hd, on⟩ := hrel
      by_cases hlt : j < n
      · have hc0 : wr.cell? ⟨g, 0, none⟩ = some (.slice (some ⟨cb, 0, none⟩) m cap) := by
          rw [hd.cell 0, HM.out]
          simp [headOf]
        obtain ⟨b, off, rfl, hcl⟩ := HB.out.at_ (by omega)
        have hjl : j < l.length := by rw [HN.out]; exact hlt
        have hb0 := hcl j hjl
        have hbc : wr.cell? ⟨b, off + j, none⟩ = some (.int .u8 ((l[j].toNat : Nat) : Int)) := by
          rw [cell_only on (lt_of_cell hb0) (by have := HSF.out (by omega) b off none rfl; simpa using this)]
          exact hb0
        have hil : i < (D.lines.set i (stored x a l j)).length := by rw [List.length_set, ← HM.out]; exact hi
        have hfz := hd.frozen2 (i * 193 + (a + j))
        have hcx := hd.now (i := i) hil
        obtain ⟨b2, off2, e2, hcl2⟩ := hcx.at_ (by omega)
        cases e2
        have hold0 := hcl2 (a + j) (by rw [hcx.len]; omega)
        have ON := Lib.hid on
        have HDR := Lib.hid hd
        have HST := Lib.hid (stored_succ x a l j (by rw [HOK.out.1, HN.out]; exact ha) hjl)
        have HLJ := Lib.hid (show ((l[j].toNat : Nat) : Int) = ((l.getD j 0).toNat : Int) by simp [List.getD, List.getElem?_eq_getElem hjl])
        obtain ⟨yo, hold⟩ : ∃ yo : Value, wr.cell? ⟨cb, i * 193 + (a + j), none⟩ = some yo := ⟨_, hold0⟩
        clear hold0
        clear hd on hcl hb0 hcx hcl2
        generalize l[j].toNat = y at *
        have q8 : ((a : Int) + (j : Int)).toNat = a + j := by omega
        have q6 : (0 : Int) ≤ (a : Int) + (j : Int) := by omega
        have q7 : (a : Int) + (j : Int) < 64 := by omega
        have q5 : IntKind.i64.wrap ((a : Int) + (j : Int)) = (a : Int) + (j : Int) := by rw [IntKind.wrap_i64]; omega
        go_wp2_with fail
        refine wp_region_still_tail 15 (by kernel_rfl) (by kernel_rfl) ?_
        simp only [List.take_succ_cons, List.take_zero, List.drop_succ_cons, List.drop_zero]
        generalize hwd : ({ wr with drawn := wr.drawn + 1 } : World) = wd
        have hc0' : wd.cell? ⟨g, 0, none⟩ = some (.slice (some ⟨cb, 0, none⟩) m cap) := hwd ▸ hc0
        have hbc' : wd.cell? ⟨b, off + j, none⟩ = some (.int .u8 (y : Int)) := hwd ▸ hbc
        have hfz' : wd.frozen? ⟨cb, i * 193 + (a + j), none⟩ = false := hwd ▸ hfz
        have hold' : wd.cell? ⟨cb, i * 193 + (a + j), none⟩ = some yo := hwd ▸ hold
        have hsb := IsDev.setByte (HDR.out.only0 (still_only hwd)) (i := i) hil (o := a + j) (by omega) (l.getD j 0) (z := (y : Int)) HLJ.out
        simp only [List.getElem_set_self, List.set_set] at hsb
        rw [HST.out] at hsb
        have HSB := Lib.hid hsb.1
        have HON := Lib.hid ((ON.out.trans0 (still_only hwd)).trans hsb.2 (by simp))
        clear hwd hc0 hbc hfz hold hsb
        repeat still_step
        refine wpStill_nil ?_
        go_wp2
        go_roundw
        case rel => exact ⟨j + 1, by omega, by go_num, HSB.out, HON.out⟩
        case measure => simp [intOf]; omega
      · obtain rfl : j = n := by omega
        have hfin : stored x a l j = { x with now := over x.now a l } := by
          unfold stored
          rw [List.take_of_length_le (by rw [HN.out]; exact Nat.le_refl _)]
        rw [hfin] at hd
        have hc1 : wr.cell? ⟨g, 1, none⟩ = some (.int .i64 D.stores) := hd.cell 1
        have hf1 := hd.frozen1 1
        have hcnt := IsDev.count (D' := storeD D i x a l) hd 1 (wrap64 (D.stores + 1)) rfl (by unfold storeD headOf; simp)
        have HCN := Lib.hid hcnt
        have ON := Lib.hid on
        clear hd on hfin hcnt
        go_wp2
        go_ret
        exact ⟨rfl, HCN.out.1, (ON.out.mono (by simp)).trans HCN.out.2 (by simp)⟩
end Go.Proofs.Ytfafpggppbolkaa
