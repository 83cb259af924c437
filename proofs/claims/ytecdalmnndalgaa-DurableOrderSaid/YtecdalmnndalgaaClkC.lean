/- Begin. -/
import Derived.Test.YtecdalmnndalgaaClkB
import Derived.Laws.IdiomCopy
namespace Go.Proofs.Ytecdalmnndalgaa
open Go.RowKit Go.Proofs.FuMem Go.Proofs.FuClk
set_option maxRecDepth 100000
theorem clk_Begin_busy (g ob : Nat) (C : Clk) (w : World) (h : ClkAt w g ob C) (h0 : C.phase ≠ 0) :
    Calls Try.prog 14 #[.pointer (some ⟨g, 0, none⟩)] w fun e w' => e = .returned (.int .i64 7) ∧ w = w' := by
  have H1 := Lib.hid (uint64_Load g 0 C.now w h.now)
  have H2 := Lib.hid (uint64_Cas_miss g 2 C.closing 0 C.now w h.clo (h.fr1 2) (fun e => h0 ((closing_zero h.ok).1 e)))
  clear h
  go_enter Try.func14, Try.ntmps14
  go_wp2_with fail
  refine (H1.out).mono ?_
  rintro e w' ⟨rfl, rfl⟩
  go_wp2_with fail
  refine (H2.out).mono ?_
  rintro e w' ⟨rfl, rfl⟩
  go_wp2
  go_ret
  exact ⟨rfl, rfl⟩
theorem falses : Try.zeroCells76 = (bools (List.replicate 258 false)).toArray := by kernel_rfl
theorem store_one (P : Program) {w : World} {a : Addr} {v u : Value} (hv : v.oneCell' = true) (hc : w.cell? a = some u) (hf : w.frozen? a = false) : (store a v).run P w = .ok () (w.setCell a v) := by
  rw [run_store P w a v .plain hv, hc, hf]
  rfl
theorem setCells_blk (P : Program) {w : World} {b : Nat} {t : TypeId} (cs : Array Value) (hb : Blk w b t cs) (vs : List Value) (hl : vs.length = cs.size) (h1 : ∀ v ∈ vs, v.oneCell' = true) : w.setCells b 0 vs = w.setRow b vs.toArray := by
  have e1 := run_storeCells_at P b 0 t vs 0 cs w hb (by omega) h1
  have e2 := run_storeCells_cells (P := P) b 0 vs 0 w (fun j hj => by rw [hb.cell]; simp; omega) (fun j _ => hb.frozen _) h1
  rw [e2] at e1
  have e3 : cs.toList.drop (0 + 0 + vs.length) = [] := List.drop_eq_nil_of_le (by simp [hl])
  rw [e3] at e1
  simpa using e1
theorem clear_ints (g m : Nat) (l : List Int) (hm : l.length = m) (h0 : 0 < m) (w : World) (hb : Blk w g 3 (l.map (Value.int .i64)).toArray) (ty : TypeId) :
    (Builtin.clear_ #[42] ty #[.slice (some ⟨g, 0, none⟩) m m]).run Try.prog w = .ok (.tuple #[]) (w.setRow g ((List.replicate m (0 : Int)).map (Value.int .i64)).toArray) := by
  have hz : ∀ w, (zeroValue 3).run Try.prog w = .ok (.int .i64 0) w := fun w => by kernel_rfl
  rw [Lib.run_clear_slice w 42 3 ty (.int .i64 0) Try.underlying42 hz rfl rfl g 0 m m h0 (fun j hj => by rw [hb.cell]; simp; omega) (fun j _ => hb.frozen _)]
  rw [setCells_blk Try.prog _ hb _ (by simp [hm]) (fun v hv => by rw [(List.mem_replicate.1 hv).2]; rfl), List.map_replicate]
set_option maxHeartbeats 2000000 in
theorem clk_Begin (g ob : Nat) (C : Clk) (w : World) (h : ClkAt w g ob C) (h0 : C.phase = 0) (hn : C.now + 1 < 18446744073709551616) :
    Calls Try.prog 14 #[.pointer (some ⟨g, 0, none⟩)] w fun e w' => e = .returned (.int .i64 0) ∧ ClkAt w' g ob (beginC C) ∧ Only [g, ob] w w' := by
  have hc0 : C.closing = 0 := (closing_zero h.ok).2 h0
  have H1 := Lib.hid (uint64_Load g 0 C.now w h.now)
  have hclo := h.clo
  rw [hc0] at hclo
  have H2 := Lib.hid (uint64_Cas_hit g 2 0 C.now w hclo (h.fr1 2))
  have hN := h.ok.noted
  have hL := h.ok.left
  have hlo := h.ok.lo
  have hid := h.ok.idle h0
  have hw : IntKind.u64.wrap (C.now + 1) = C.now + 1 := by rw [IntKind.wrap_u64]; omega
  have ho1 : Only [g] w (w.setCell ⟨g, 2, none⟩ (.int .u64 C.now)) := (Only.refl _ _).setCell (.inl (by simp)) _
  have hb1 := h.head.set 2 (.int .u64 C.now)
  have hr1 := h.row.only ho1 (by simpa using h.ne.symm)
  have hm4 := h.ok.owed1
  have OKB := Lib.hid (beginC_ok h.ok h0 hn)
  have HNE := Lib.hid h.ne
  rw [cellsOf_raw, raw_set2] at hb1
  generalize hw1 : w.setCell ⟨g, 2, none⟩ (.int .u64 C.now) = w1 at *
  have hsl : Sl w1 (some ⟨g, 4, none⟩) C.noted.length (bools C.noted) := by
    refine Sl.of_blk hb1 4 ?_ (by rw [raw_size hN hL, hN]; omega)
    show bools C.noted = (bools C.noted ++ (bools C.left ++ [stepV _ _ _ _ g C.phase])).take C.noted.length
    rw [← bools_length C.noted, List.take_left' rfl]
  have hsz : (Try.prog.info? 76).map (·.size) = some C.noted.length := by rw [hN]; kernel_rfl
  have HS := Lib.hid hsz
  have HB1 := Lib.hid hb1
  have HR1 := Lib.hid hr1
  have HO1 := Lib.hid ho1
  have HM4 := Lib.hid hm4
  have HFIT1 := Lib.hid (show 262 + (bools C.noted).toArray.size ≤ 521 by simp [bools, hN])
  have HSZ1 := Lib.hid (show (Try.prog.info? 76).map (·.size) = some (bools C.noted).toArray.size by rw [List.size_toArray, bools_length, hN]; kernel_rfl)
  have HSZ2 := Lib.hid (show (Try.prog.info? 76).map (·.size) = some Try.zeroCells76.size by rw [falses]; kernel_rfl)
  have HB1s := Lib.hid (raw_size (a := .int .u64 C.now) (b := .int .u64 C.durable) (c := .int .u64 C.now) (s := .slice (some ⟨ob, 0, none⟩) C.owed.length C.owed.length) (v := stepV 40 65 75 79 g C.phase) hN hL)
  have HN := Lib.hid hN
  have HL := Lib.hid hL
  have HPH := Lib.hid h0
  clear h hclo hb1 hr1 ho1 hm4 hw1 hsz hN hL h0 hid hlo hc0 hn
  have hmf : ∀ (fn : Fn) (first cap : Array Value) (w : World), (Instr.makeFunc fn first cap).run Try.prog w = .ok (.func fn first cap) w := fun _ _ _ _ => rfl
  go_enter Try.func14, Try.ntmps14
  go_wp2_with fail
  refine (H1.out).mono ?_
  rintro e w' ⟨rfl, rfl⟩
  go_wp2_with fail
  refine H2.out.mono ?_
  rintro e w' ⟨rfl, rfl⟩
  go_wp2_with (first
    | ((with_reducible show wpList _ _ _ (Oper.mk (some 21) _ _ _ _ _ :: _) _ _); refine wpList_load_bools rfl 76 (.tmp 20) rfl g 4 rfl C.noted hsl 258 4 Try.underlying76 HS.out ?_)
    | ((with_reducible show wpList _ _ _ (Oper.mk none _ _ _ _ _ :: _) _ _); refine wpList_store_blk rfl 76 (.tmp 24) (.tmp 21) rfl g 262 (bools C.noted).toArray rfl rfl 79 _ HB1.out (by rw [HB1s.out]; exact HFIT1.out) HSZ1.out (bools_one _) ?_; intro w2 hb2 ho2 hs2; have hb2' := hb2; rw [List.toList_toArray, raw_lefts HN.out HL.out HN.out] at hb2'; have HB2 := Lib.hid hb2'; have HO2 := Lib.hid ho2; clear hb2 hb2' ho2)
    | ((with_reducible show wpList _ _ _ (Oper.mk none _ _ _ _ _ :: _) _ _); refine wpList_store_blk rfl 76 (.tmp 26) (.tmp 22) rfl g 4 Try.zeroCells76 rfl rfl 79 _ HB2.out (by rw [raw_size HN.out HN.out, falses]; simp [bools]) HSZ2.out (by rw [falses]; exact bools_one _) ?_; intro w3 hb3 ho3 hs3; have hb3' := hb3; rw [falses, List.toList_toArray, raw_noteds HN.out (List.length_replicate)] at hb3'; have HB3 := Lib.hid hb3'; have HO3 := Lib.hid ho3; have c3 : w3.cell? ⟨g, 3, none⟩ = some (.slice (some ⟨ob, 0, none⟩) C.owed.length C.owed.length) := (hb3'.cell 3).trans rfl;
        have hr3 := (HR1.out.only HO2.out (by simpa using HNE.out.symm)).only ho3 (by simpa using HNE.out.symm); have hcl := clear_ints ob C.owed.length C.owed rfl (by have := HM4.out; omega) w3 hr3; have HR3 := Lib.hid hr3; clear hb3 hb3' ho3 hr3))
  rw [show (Array.replicate C.owed.length (Value.int .i64 0)) = ((List.replicate C.owed.length (0 : Int)).map (Value.int .i64)).toArray by simp]
  have ho4 : Only [ob] w3 (w3.setRow ob ((List.replicate C.owed.length (0 : Int)).map (Value.int .i64)).toArray) := (Only.refl _ _).setRow (.inl (by simp)) _
  have hb4 := HB3.out.only ho4 (by simpa using HNE.out)
  have hr4 := HR3.out.row ((List.replicate C.owed.length (0 : Int)).map (Value.int .i64)).toArray
  have HO4 := Lib.hid (((HO1.out.trans HO2.out (by simp)).trans HO3.out (by simp)).mono (T := [g, ob]) (by simp) |>.trans ho4 (by simp))
  clear hcl c3 ho4 hs2 hs3 hsl HSZ1 HSZ2 HFIT1 HB1s HB1 HB2 HB3 HR1 HR3 HS
  generalize w3.setRow ob ((List.replicate C.owed.length (0 : Int)).map (Value.int .i64)).toArray = w4 at *
  have hb5 := hb4.set 0 (.int .u64 (C.now + 1))
  have ho5 : Only [g] w4 (w4.setCell ⟨g, 0, none⟩ (.int .u64 (C.now + 1))) := (Only.refl _ _).setCell (.inl (by simp)) _
  have hr5 := hr4.only ho5 (by simpa using HNE.out.symm)
  have H5 := uint64_Store g 0 (.int .u64 C.now) (C.now + 1) w4 ((hb4.cell 0).trans rfl) (hb4.frozen 0)
  rw [raw_set0] at hb5
  generalize w4.setCell ⟨g, 0, none⟩ (.int .u64 (C.now + 1)) = w5 at *
  refine H5.mono ?_
  rintro e w' ⟨rfl, rfl⟩
  have c520 : w5.cell? ⟨g, 520, none⟩ = some (stepV 40 65 75 79 g C.phase) := (hb5.cell 520).trans (raw_at520 (List.length_replicate) HN.out)
  have f520 := hb5.frozen 520
  have hb6 := hb5.set 520 (.func (.func 40) #[.pointer (some ⟨g, 0, none⟩)] #[])
  have ho6 : Only [g] w5 (w5.setCell ⟨g, 520, none⟩ (.func (.func 40) #[.pointer (some ⟨g, 0, none⟩)] #[])) := (Only.refl _ _).setCell (.inl (by simp)) _
  have hr6 := hr5.only ho6 (by simpa using HNE.out.symm)
  rw [raw_step (List.length_replicate) HN.out] at hb6
  have HF : Hid (ClkAt (w5.setCell ⟨g, 520, none⟩ (.func (.func 40) #[.pointer (some ⟨g, 0, none⟩)] #[])) g ob (beginC C)) := Lib.hid (by
    refine ⟨?_, ?_, HNE.out, OKB.out⟩
    · rw [cellsOf_raw]
      have e : (beginC C).closing = C.now := by unfold Clk.closing beginC; simp
      rw [e]
      unfold beginC
      simp only [List.length_replicate]
      exact hb6
    · exact hr6)
  have HFO := Lib.hid ((HO4.out.trans ho5 (by simp)).trans ho6 (by simp))
  clear hb5 hr5 hb6 hr6 ho5 ho6 hb4 hr4 H5
  generalize stepV 40 65 75 79 g C.phase = sv at *
  have hst := store_one Try.prog (v := .func (.func 40) #[.pointer (some ⟨g, 0, none⟩)] #[]) rfl c520 f520
  go_wp2
  go_ret
  exact ⟨rfl, HF.out, HFO.out⟩
def beginNo (C : Clk) : Int := if C.phase = 0 then 0 else 7
def beginT (C : Clk) : Clk := if C.phase = 0 then beginC C else C
theorem clk_Begin_any (g ob : Nat) (C : Clk) (w : World) (h : ClkAt w g ob C) (hn : C.now + 1 < 18446744073709551616) :
    Calls Try.prog 14 #[.pointer (some ⟨g, 0, none⟩)] w fun e w' => e = .returned (.int .i64 (beginNo C)) ∧ ClkAt w' g ob (beginT C) ∧ Only [g, ob] w w' := by
  unfold beginT beginNo
  by_cases h0 : C.phase = 0
  · rw [if_pos h0, if_pos h0]
    exact clk_Begin g ob C w h h0 hn
  · rw [if_neg h0, if_neg h0]
    refine (clk_Begin_busy g ob C w h h0).mono ?_
    rintro e w' ⟨rfl, rfl⟩
    exact ⟨rfl, h, Only.refl _ _⟩
end Go.Proofs.Ytecdalmnndalgaa
