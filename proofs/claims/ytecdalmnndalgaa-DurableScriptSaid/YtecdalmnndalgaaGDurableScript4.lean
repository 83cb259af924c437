/- Step: what a clock does of a closing. -/
import Derived.Deep.RegionHeld3
import Derived.StillTailTactics
import Derived.Test.YtecdalmnndalgaaGDurableScript1
import Derived.Test.YtecdalmnndalgaaGDurableScript2
import Derived.Test.YtecdalmnndalgaaGDurableScript3
namespace Go.Proofs.Ytecdalmnndalgaa
open Go.RowKit Go.Proofs.FuMem Go.Proofs.FuClk Go.Proofs.FuNvm Go.Proofs.FuGeom
set_option maxRecDepth 100000
def least (L : List Bool) : Option Nat := L.findIdx? id
theorem least_some {L : List Bool} {k : Nat} (hk : L.getD k false = true) (h : ∀ j < k, L.getD j false = false) : least L = some k := by
  unfold least
  rw [List.findIdx?_eq_some_iff_getElem]
  have hlt : k < L.length := by
    refine Nat.lt_of_not_le fun hge => ?_
    simp [List.getD, List.getElem?_eq_none hge] at hk
  refine ⟨hlt, by simpa [List.getD, hlt] using hk, fun j hj => ?_⟩
  have := h j hj
  simpa [List.getD, show j < L.length by omega] using this
theorem least_none {L : List Bool} (h : ∀ j < L.length, L.getD j false = false) : least L = none := by
  unfold least
  rw [List.findIdx?_eq_none_iff]
  intro x hx
  obtain ⟨j, hj, rfl⟩ := List.getElem_of_mem hx
  have := h j hj
  simpa [List.getD, hj] using this
theorem least_lt {L : List Bool} {k : Nat} (h : least L = some k) : k < L.length := by
  unfold least at h
  rw [List.findIdx?_eq_some_iff_getElem] at h
  exact h.1
theorem least_at {L : List Bool} {k : Nat} (h : least L = some k) : L.getD k false = true := by
  unfold least at h
  rw [List.findIdx?_eq_some_iff_getElem] at h
  obtain ⟨h1, h2, _⟩ := h
  simpa [List.getD, h1] using h2
theorem least_false {L : List Bool} (h : least L = none) : L = List.replicate L.length false := by
  unfold least at h
  rw [List.findIdx?_eq_none_iff] at h
  exact List.eq_replicate_iff.2 ⟨rfl, fun x hx => by simpa using h x hx⟩
def stepC (C : Clk) : Clk := if C.phase = 0 then C else if C.phase = 1 then (match least C.left with | some i => { C with left := C.left.set i false } | none => { C with phase := 2 }) else if C.phase = 2 then { C with phase := 3 } else if C.phase = 3 then { C with phase := 4 } else { C with phase := 0, durable := C.now - 1 }
def stepD (C : Clk) (D : Dev) : Dev := if C.phase = 0 then D else if C.phase = 1 then (match least C.left with | some i => flush1 D i | none => fenceD D) else if C.phase = 2 then store1 D 1 0 (clockL C.closing.toNat) else if C.phase = 3 then flush1 D 1 else fenceD D
def stepA (C : Clk) : Int := if C.phase = 0 then 0 else if C.phase = 1 then (match least C.left with | some _ => 1 | none => 2) else if C.phase = 2 then 3 else if C.phase = 3 then 1 else 2
def stepE (C : Clk) : Int := if C.phase = 0 then 12 else 0
theorem stepC_ok {C : Clk} (h : C.Ok) : (stepC C).Ok := by
  unfold stepC
  by_cases h0 : C.phase = 0
  · rw [if_pos h0]; exact h
  rw [if_neg h0]
  have hb := h.busy h0
  have hl := h.lo
  by_cases h1 : C.phase = 1
  · rw [if_pos h1]
    cases hm : least C.left with
    | some i => exact { noted := h.noted, left := by show (C.left.set i false).length = 258; rw [List.length_set]; exact h.left, owed1 := h.owed1, owed4 := h.owed4, phase := h.phase, lo := h.lo, hi := h.hi, idle := h.idle, busy := h.busy, done := fun e => absurd h1 e }
    | none =>
      have := least_false hm
      rw [h.left] at this
      exact { noted := h.noted, left := h.left, owed1 := h.owed1, owed4 := h.owed4, phase := by show 2 ≤ 4; omega, lo := h.lo, hi := h.hi, idle := fun e => (by cases e), busy := fun _ => hb, done := fun _ => this }
  rw [if_neg h1]
  have hd := h.done h1
  by_cases h2 : C.phase = 2
  · rw [if_pos h2]
    exact { noted := h.noted, left := h.left, owed1 := h.owed1, owed4 := h.owed4, phase := by show 3 ≤ 4; omega, lo := h.lo, hi := h.hi, idle := fun e => (by cases e), busy := fun _ => hb, done := fun _ => hd }
  rw [if_neg h2]
  by_cases h3 : C.phase = 3
  · rw [if_pos h3]
    exact { noted := h.noted, left := h.left, owed1 := h.owed1, owed4 := h.owed4, phase := by show 4 ≤ 4; omega, lo := h.lo, hi := h.hi, idle := fun e => (by cases e), busy := fun _ => hb, done := fun _ => hd }
  rw [if_neg h3]
  exact { noted := h.noted, left := h.left, owed1 := h.owed1, owed4 := h.owed4, phase := by show 0 ≤ 4; omega, lo := by show 0 ≤ C.now - 1; omega, hi := h.hi, idle := fun _ => by show C.now = C.now - 1 + 1; omega, busy := fun e => absurd rfl e, done := fun _ => hd }
theorem leftCell {w : World} {g ob : Nat} {C : Clk} (h : ClkAt w g ob C) {i : Nat} (hi : i < 258) : w.cell? ⟨g, 262 + i, none⟩ = some (.bool (C.left.getD i false)) := by
  rw [h.head.cell]
  have := restOf_at2 (v := stepV 40 65 75 79 g C.phase) h.ok.noted h.ok.left hi
  rw [List.getElem?_eq_getElem (l := C.left) (by rw [h.ok.left]; exact hi)] at this
  rw [show 262 + i = (258 + i) + 1 + 1 + 1 + 1 by omega]
  have e : C.left.getD i false = C.left[i]'(by rw [h.ok.left]; exact hi) := by simp [List.getD, h.ok.left, hi]
  rw [e]
  simpa [FuClk.cellsOf] using this
theorem clk_setStep {w : World} {g ob : Nat} {C C' : Clk} (h : ClkAt w g ob C) (ok : C'.Ok) (e0 : C'.closing = C.closing) (e1 : C'.now = C.now) (e2 : C'.durable = C.durable) (e3 : C'.owed = C.owed) (e4 : C'.noted = C.noted) (e5 : C'.left = C.left) :
    ClkAt (w.setCell ⟨g, 520, none⟩ (stepV 40 65 75 79 g C'.phase)) g ob C' ∧ Only [g] w (w.setCell ⟨g, 520, none⟩ (stepV 40 65 75 79 g C'.phase)) := by
  have ho : Only [g] w (w.setCell ⟨g, 520, none⟩ (stepV 40 65 75 79 g C'.phase)) := (Only.refl _ _).setCell (.inl (by simp)) _
  have hb := h.head.set 520 (stepV 40 65 75 79 g C'.phase)
  rw [cellsOf_raw, raw_step h.ok.noted h.ok.left] at hb
  refine ⟨h.put ?_ ho e3 ok, ho⟩
  rw [cellsOf_raw, e0, e1, e2, e3, e4, e5]
  exact hb
theorem clk_setLeft {w : World} {g ob : Nat} {C : Clk} (h : ClkAt w g ob C) {i : Nat} (hi : i < 258) (ok : Clk.Ok { C with left := C.left.set i false }) :
    ClkAt (w.setCell ⟨g, 262 + i, none⟩ (.bool false)) g ob { C with left := C.left.set i false } ∧ Only [g] w (w.setCell ⟨g, 262 + i, none⟩ (.bool false)) := by
  have ho : Only [g] w (w.setCell ⟨g, 262 + i, none⟩ (.bool false)) := (Only.refl _ _).setCell (.inl (by simp)) _
  have hb := h.head.set (262 + i) (.bool false)
  rw [cellsOf_raw, raw_left h.ok.noted h.ok.left hi] at hb
  exact ⟨h.put hb ho rfl ok, ho⟩
set_option maxHeartbeats 1000000 in
theorem clk_flush (g ob dg dcb cap : Nat) (C : Clk) (D : Dev) (w : World) (h : ClkAt w g ob C) (hd : DevAt w dg dcb cap D) (h1 : C.phase = 1) (hsep : g ≠ dg ∧ g ≠ dcb ∧ ob ≠ dg ∧ ob ≠ dcb) :
    Calls Try.prog 40 #[.pointer (some ⟨g, 0, none⟩), .pointer (some ⟨dg, 0, none⟩)] w fun e w' => e = .returned (.int .i64 (stepA C)) ∧ ClkAt w' g ob (stepC C) ∧ DevAt w' dg dcb cap (stepD C D) ∧ Only [g, dg, dcb] w w' := by
  have hl := h.leftSl
  have hL := h.ok.left
  have hok := stepC_ok h.ok
  have HSEP := Lib.hid hsep
  have HC := Lib.hid h
  have HD := Lib.hid hd
  have HP := Lib.hid h1
  have eA : stepA C = (match least C.left with | some _ => 1 | none => 2) := by unfold stepA; rw [if_neg (by omega), if_pos h1]
  have eC : stepC C = (match least C.left with | some i => { C with left := C.left.set i false } | none => { C with phase := 2 }) := by unfold stepC; rw [if_neg (by omega), if_pos h1]
  have eD : stepD C D = (match least C.left with | some i => flush1 D i | none => fenceD D) := by unfold stepD; rw [if_neg (by omega), if_pos h1]
  rw [eC] at hok
  have EA := Lib.hid eA
  have EC := Lib.hid eC
  have ED := Lib.hid eD
  have HOK := Lib.hid hok
  rw [← hL] at hl
  have hsz : (Try.prog.info? 76).map (·.size) = some C.left.length := by rw [hL]; kernel_rfl
  have HS := Lib.hid hsz
  have HLL := Lib.hid hL
  have hmf : ∀ (fn : Fn) (first cap : Array Value) (w : World), (Instr.makeFunc fn first cap).run Try.prog w = .ok (.func fn first cap) w := fun _ _ _ _ => rfl
  clear h hd h1 hsz hL eA eC eD hok hsep
  go_enter Try.func40, Try.ntmps40
  go_wp2_with ((with_reducible show wpList _ _ _ (Oper.mk (some 10) _ _ _ _ _ :: _) _ _); refine wpList_load_bools rfl 76 (.tmp 9) rfl g 262 rfl C.left hl 258 4 Try.underlying76 HS.out ?_)
  clear hl
  generalize hAG : (bools C.left).toArray = AG at *
  have HAG := Lib.hid hAG
  clear hAG
  go_loopw [5, 6, 11] (fun _ _ i wr => ∃ (k : Nat), k ≤ 258 ∧ i = .int .i64 k ∧ (∀ j < k, C.left.getD j false = false) ∧ wr = w) (fun _ _ i _ => 258 - (intOf i).toNat)
  case atStart => exact ⟨0, Nat.zero_le _, rfl, fun j hj => by omega, rfl⟩
  case round =>
    obtain ⟨k, hk, rfl, hall, rfl⟩ := hrel
    have HALL := Lib.hid hall
    clear hall
    by_cases hlt : k < 258
    · have hix : ∀ w, (Instr.index 76 (.agg AG) (.int .i64 k)).run Try.prog w = .ok (.bool (C.left.getD k false)) w := fun w => by
        rw [← HAG.out]
        exact run_index_bool C.left k _ HLL.out (by rw [List.getElem?_eq_getElem (by rw [HLL.out]; exact hlt)]; simp [List.getD, HLL.out, hlt]) w
      have y1 : decide ((k : Int) < 258) = true := by rw [decide_eq_true_eq]; omega
      by_cases hp : C.left.getD k false = true
      · have hm := least_some hp HALL.out
        have hok := HOK.out
        rw [hm] at hok
        simp only at hok
        have HM := Lib.hid hm
        have hcell := leftCell HC.out hlt
        have hfz := HC.out.fr1 (262 + k)
        have hset := clk_setLeft HC.out hlt hok
        have HSET := Lib.hid hset
        have hs := HSEP.out
        have HFL := Lib.hid (nvm_Flush_any dg dcb cap D k _ (HD.out.only hset.2 (by simp; omega) (by simp; omega)))
        rw [hp] at hix hcell
        clear hset hok hm hp hs
        go_wp2_with fail
        refine HFL.out.mono ?_
        rintro e w2 ⟨rfl, d2, o2⟩
        have HC2 := Lib.hid (HSET.out.1.only o2 (by have := HSEP.out; simp; omega) (by have := HSEP.out; simp; omega))
        have HD2 := Lib.hid d2
        have HO2 := Lib.hid ((HSET.out.2.mono (T := [g, dg, dcb]) (by simp)).trans o2 (by intro b hb; simp at hb ⊢; omega))
        clear d2 o2
        go_wp2
        go_ret
        rw [EA.out, EC.out, ED.out, HM.out]
        exact ⟨rfl, HC2.out, HD2.out, HO2.out⟩
      · have hp0 : C.left.getD k false = false := by simpa using hp
        have HALL2 : Hid (∀ j < k + 1, C.left.getD j false = false) := Lib.hid fun j hj => by
          by_cases hjk : j = k
          · rw [hjk]; exact hp0
          · exact HALL.out j (by omega)
        rw [hp0] at hix
        clear hp hp0
        go_wp2
        go_roundw
        case rel => exact ⟨k + 1, by omega, by go_num, HALL2.out, trivial⟩
        case measure => simp [intOf]; omega
    · obtain rfl : k = 258 := by omega
      have hm := least_none (L := C.left) (by rw [HLL.out]; exact HALL.out)
      have hok := HOK.out
      rw [hm] at hok
      simp only at hok
      have HM := Lib.hid hm
      have HFE := Lib.hid (nvm_Fence dg dcb cap D _ HD.out)
      have HOK2 := Lib.hid hok
      clear hm hok
      go_wp2_with fail
      refine HFE.out.mono ?_
      rintro e w2 ⟨rfl, d2, o2⟩
      have hs := HSEP.out
      have hc2 := HC.out.only o2 (by simp; omega) (by simp; omega)
      have c520 := hc2.step
      have f520 := hc2.fr1 520
      have hset := clk_setStep (C' := { C with phase := 2 }) hc2 HOK2.out (by unfold Clk.closing; rw [if_neg (show ¬ (2 : Nat) = 0 by omega), if_neg (by rw [HP.out]; omega)]) rfl rfl rfl rfl rfl
      have HSET := Lib.hid hset
      have HD2 := Lib.hid (d2.only hset.2 (by simp; omega) (by simp; omega))
      have HO2 := Lib.hid (o2.mono (T := [g, dg, dcb]) (by intro b hb; simp at hb ⊢; omega) |>.trans hset.2 (by simp))
      have hst := store_one Try.prog (v := .func (.func 65) #[.pointer (some ⟨g, 0, none⟩)] #[]) rfl c520 f520
      clear hset d2 o2 hc2 hs
      generalize stepV 40 65 75 79 g C.phase = sv at *
      go_wp2
      go_ret
      rw [EA.out, EC.out, ED.out, HM.out]
      exact ⟨rfl, HSET.out.1, HD2.out, HO2.out⟩
set_option maxHeartbeats 1000000 in
theorem clk_store (g ob dg dcb cap : Nat) (C : Clk) (D : Dev) (w : World) (h : ClkAt w g ob C) (hd : DevAt w dg dcb cap D) (h1 : C.phase = 2) (hsep : g ≠ dg ∧ g ≠ dcb ∧ ob ≠ dg ∧ ob ≠ dcb) :
    Calls Try.prog 65 #[.pointer (some ⟨g, 0, none⟩), .pointer (some ⟨dg, 0, none⟩)] w fun e w' => e = .returned (.int .i64 3) ∧ ClkAt w' g ob { C with phase := 3 } ∧ DevAt w' dg dcb cap (store1 D 1 0 (clockL C.closing.toNat)) ∧ Only [g, dg, dcb] w w' := by
  have hok := stepC_ok h.ok
  unfold stepC at hok
  rw [if_neg (by omega), if_neg (by omega), if_pos h1] at hok
  have hcl : C.closing = C.now - 1 := by unfold Clk.closing; rw [if_neg (by omega)]
  have hb := h.ok.busy (by omega)
  have hlo := h.ok.lo
  have hhi := h.ok.hi
  have hC' : ∃ v : Nat, C.closing = (v : Int) ∧ v < 18446744073709551616 := ⟨C.closing.toNat, by omega, by omega⟩
  obtain ⟨v, hv, hv2⟩ := hC'
  have hload := uint64_Load g 2 C.closing w h.clo
  rw [hv] at hload
  have HV := Lib.hid hv
  have HLO := Lib.hid hload
  have HSEP := Lib.hid hsep
  have HC := Lib.hid h
  have HD := Lib.hid hd
  have HP := Lib.hid h1
  have HOK := Lib.hid hok
  have HCK := Lib.hid (fun w => geom_Clock v w hv2)
  have hmf : ∀ (fn : Fn) (first cap : Array Value) (w : World), (Instr.makeFunc fn first cap).run Try.prog w = .ok (.func fn first cap) w := fun _ _ _ _ => rfl
  clear h hd h1 hok hcl hb hlo hhi hv hv2 hload hsep
  go_enter Try.func65, Try.ntmps65
  go_wp2_with fail
  refine (HLO.out).mono ?_
  rintro e w' ⟨rfl, rfl⟩
  go_wp2_with fail
  refine (HCK.out w).mono ?_
  rintro e w1 ⟨r, rfl, ar, hr, o1⟩
  have HST := Lib.hid (nvm_Store_any dg dcb cap D 1 0 (some ⟨r, 0, none⟩) 64 64 (clockL v) w1 (HD.out.only0 o1) (arr64 ar (clockL_length v)) (by unfold maxLen; omega))
  have O1 := Lib.hid o1
  have HC1 := Lib.hid (HC.out.only0 o1)
  clear ar o1 hr
  go_wp2_with fail
  refine HST.out.mono ?_
  rintro e w2 ⟨rfl, d2, o2⟩
  have hs := HSEP.out
  have hc2 := HC1.out.only o2 (by simp; omega) (by simp; omega)
  have c520 := hc2.step
  have f520 := hc2.fr1 520
  have hset := clk_setStep (C' := { C with phase := 3 }) hc2 HOK.out (by unfold Clk.closing; rw [if_neg (show ¬ (3 : Nat) = 0 by omega), if_neg (by rw [HP.out]; omega)]) rfl rfl rfl rfl rfl
  have HSET := Lib.hid hset
  have HD2 := Lib.hid (d2.only hset.2 (by simp; omega) (by simp; omega))
  have HO2 := Lib.hid (((O1.out.mono (T := [g, dg, dcb]) (by simp)).trans o2 (by intro b hb; simp at hb ⊢; omega)).trans hset.2 (by simp))
  have hst := store_one Try.prog (v := .func (.func 75) #[.pointer (some ⟨g, 0, none⟩)] #[]) rfl c520 f520
  clear hset d2 o2 hc2 hs
  generalize stepV 40 65 75 79 g C.phase = sv at *
  go_wp2
  go_ret
  rw [HV.out, Int.toNat_natCast]
  exact ⟨rfl, HSET.out.1, HD2.out, HO2.out⟩
set_option maxHeartbeats 1000000 in
theorem clk_send (g ob dg dcb cap : Nat) (C : Clk) (D : Dev) (w : World) (h : ClkAt w g ob C) (hd : DevAt w dg dcb cap D) (h1 : C.phase = 3) (hsep : g ≠ dg ∧ g ≠ dcb ∧ ob ≠ dg ∧ ob ≠ dcb) :
    Calls Try.prog 75 #[.pointer (some ⟨g, 0, none⟩), .pointer (some ⟨dg, 0, none⟩)] w fun e w' => e = .returned (.int .i64 1) ∧ ClkAt w' g ob { C with phase := 4 } ∧ DevAt w' dg dcb cap (flush1 D 1) ∧ Only [g, dg, dcb] w w' := by
  have hok := stepC_ok h.ok
  unfold stepC at hok
  rw [if_neg (by omega), if_neg (by omega), if_neg (by omega), if_pos h1] at hok
  have HSEP := Lib.hid hsep
  have HC := Lib.hid h
  have HP := Lib.hid h1
  have HOK := Lib.hid hok
  have HFL := Lib.hid (nvm_Flush_any dg dcb cap D 1 w hd)
  have hmf : ∀ (fn : Fn) (first cap : Array Value) (w : World), (Instr.makeFunc fn first cap).run Try.prog w = .ok (.func fn first cap) w := fun _ _ _ _ => rfl
  clear h hd h1 hok hsep
  go_enter Try.func75, Try.ntmps75
  go_wp2_with fail
  refine HFL.out.mono ?_
  rintro e w2 ⟨rfl, d2, o2⟩
  have hs := HSEP.out
  have hc2 := HC.out.only o2 (by simp; omega) (by simp; omega)
  have c520 := hc2.step
  have f520 := hc2.fr1 520
  have hset := clk_setStep (C' := { C with phase := 4 }) hc2 HOK.out (by unfold Clk.closing; rw [if_neg (show ¬ (4 : Nat) = 0 by omega), if_neg (by rw [HP.out]; omega)]) rfl rfl rfl rfl rfl
  have HSET := Lib.hid hset
  have HD2 := Lib.hid (d2.only hset.2 (by simp; omega) (by simp; omega))
  have HO2 := Lib.hid ((o2.mono (T := [g, dg, dcb]) (by intro b hb; simp at hb ⊢; omega)).trans hset.2 (by simp))
  have hst := store_one Try.prog (v := .func (.func 79) #[.pointer (some ⟨g, 0, none⟩)] #[]) rfl c520 f520
  clear hset d2 o2 hc2 hs
  generalize stepV 40 65 75 79 g C.phase = sv at *
  go_wp2
  go_ret
  exact ⟨rfl, HSET.out.1, HD2.out, HO2.out⟩
set_option maxHeartbeats 1000000 in
theorem clk_end (g ob dg dcb cap : Nat) (C : Clk) (D : Dev) (w : World) (h : ClkAt w g ob C) (hd : DevAt w dg dcb cap D) (h1 : C.phase = 4) (hsep : g ≠ dg ∧ g ≠ dcb ∧ ob ≠ dg ∧ ob ≠ dcb) :
    Calls Try.prog 79 #[.pointer (some ⟨g, 0, none⟩), .pointer (some ⟨dg, 0, none⟩)] w fun e w' => e = .returned (.int .i64 2) ∧ ClkAt w' g ob { C with phase := 0, durable := C.now - 1 } ∧ DevAt w' dg dcb cap (fenceD D) ∧ Only [g, dg, dcb] w w' := by
  have hok := stepC_ok h.ok
  unfold stepC at hok
  rw [if_neg (by omega), if_neg (by omega), if_neg (by omega), if_neg (by omega)] at hok
  have hcl : C.closing = C.now - 1 := by unfold Clk.closing; rw [if_neg (by omega)]
  have HCL := Lib.hid hcl
  have HSEP := Lib.hid hsep
  have HC := Lib.hid h
  have HP := Lib.hid h1
  have HOK := Lib.hid hok
  have HFE := Lib.hid (nvm_Fence dg dcb cap D w hd)
  clear h hd h1 hok hsep hcl
  go_enter Try.func79, Try.ntmps79
  go_wp2_with fail
  refine HFE.out.mono ?_
  rintro e w2 ⟨rfl, d2, o2⟩
  have hs := HSEP.out
  have hc2 := HC.out.only o2 (by simp; omega) (by simp; omega)
  have od : Only [] w2 w2.drew := (Only.refl _ _).drew
  have hcd := hc2.only0 od
  have hld := uint64_Load g 2 C.closing w2.drew hcd.clo
  have hsd := uint64_Store g 1 (.int .u64 C.durable) C.closing w2.drew hcd.dur (hcd.fr1 1)
  have hb3 := hcd.head.set 1 (.int .u64 C.closing)
  have ho3 : Only [g] w2.drew (w2.drew.setCell ⟨g, 1, none⟩ (.int .u64 C.closing)) := (Only.refl _ _).setCell (.inl (by simp)) _
  have hr3 := hcd.row.only ho3 (by simpa using hcd.ne.symm)
  rw [cellsOf_raw, raw_set1] at hb3
  have ew : w2.drew.setCell ⟨g, 1, none⟩ (.int .u64 C.closing) = (w2.setCell ⟨g, 1, none⟩ (.int .u64 C.closing)).drew := rfl
  rw [ew] at hsd hb3 ho3 hr3
  have HLD := Lib.hid hld
  have HSD := Lib.hid hsd
  have HB3 := Lib.hid hb3
  have HR3 := Lib.hid hr3
  have HD3 := Lib.hid ((d2.only0 od).only ho3 (by simp; omega) (by simp; omega))
  have HO3 := Lib.hid (((o2.mono (T := [g, dg, dcb]) (by intro b hb; simp at hb ⊢; omega)).trans0 od).trans ho3 (by simp))
  have c2 := hc2.clo
  clear o2 d2 hc2 od hld hsd hb3 ho3 hr3 hcd hs
  go_wp2
  go_region_held3 (fun w' => w'.cell? ⟨g, 2, none⟩ = some (.int .u64 C.closing)) (go_keep) (first
    | (go_at_call 37; refine HSD.out.mono ?_; rintro e w' ⟨rfl, rfl⟩; have c2 : (w2.setCell ⟨g, 1, none⟩ (.int .u64 C.closing)).drew.cell? ⟨g, 2, none⟩ = some (.int .u64 C.closing) := (HB3.out.cell 2).trans rfl)
    | (go_at_call 38; refine HLD.out.mono ?_; rintro e w' ⟨rfl, rfl⟩))
  clear HLD HSD ew c2 HFE
  generalize (w2.setCell ⟨g, 1, none⟩ (.int .u64 C.closing)).drew = w3 at *
  have hb3 := HB3.out
  have h4 := uint64_Store g 2 (.int .u64 C.closing) 0 w3 ((hb3.cell 2).trans rfl) (hb3.frozen 2)
  have hb4 := hb3.set 2 (.int .u64 0)
  have ho4 : Only [g] w3 (w3.setCell ⟨g, 2, none⟩ (.int .u64 0)) := (Only.refl _ _).setCell (.inl (by simp)) _
  have hr4 := HR3.out.only ho4 (by simpa using HC.out.ne.symm)
  rw [raw_set2] at hb4
  generalize w3.setCell ⟨g, 2, none⟩ (.int .u64 0) = w4 at *
  have H4 := Lib.hid h4
  have c520 : w4.cell? ⟨g, 520, none⟩ = some (stepV 40 65 75 79 g C.phase) := (hb4.cell 520).trans (raw_at520 HC.out.ok.noted HC.out.ok.left)
  have f520 := hb4.frozen 520
  have hb5 := hb4.set 520 .nilFunc
  have ho5 : Only [g] w4 (w4.setCell ⟨g, 520, none⟩ .nilFunc) := (Only.refl _ _).setCell (.inl (by simp)) _
  have hr5 := hr4.only ho5 (by simpa using HC.out.ne.symm)
  rw [raw_step HC.out.ok.noted HC.out.ok.left] at hb5
  have HF : Hid (ClkAt (w4.setCell ⟨g, 520, none⟩ .nilFunc) g ob { C with phase := 0, durable := C.now - 1 }) := Lib.hid (by
    refine ⟨?_, hr5, HC.out.ne, HOK.out⟩
    rw [cellsOf_raw]
    rw [HCL.out] at hb5
    exact hb5)
  have hs := HSEP.out
  have HD5 := Lib.hid ((HD3.out.only ho4 (by simp; omega) (by simp; omega)).only ho5 (by simp; omega) (by simp; omega))
  have HO5 := Lib.hid ((HO3.out.trans ho4 (by simp)).trans ho5 (by simp))
  have hst := store_one Try.prog (v := .nilFunc) rfl c520 f520
  clear h4 hb3 hb4 hb5 ho4 ho5 hr4 hr5 hs
  generalize stepV 40 65 75 79 g C.phase = sv at *
  go_wp2_with fail
  refine H4.out.mono ?_
  rintro e w' ⟨rfl, rfl⟩
  go_wp2
  go_ret
  exact ⟨rfl, HF.out, HD5.out, HO5.out⟩
theorem clk_Step (g ob dg dcb cap : Nat) (C : Clk) (D : Dev) (w : World) (h : ClkAt w g ob C) (hd : DevAt w dg dcb cap D) (hsep : g ≠ dg ∧ g ≠ dcb ∧ ob ≠ dg ∧ ob ≠ dcb) :
    Calls Try.prog 15 #[.pointer (some ⟨g, 0, none⟩), .pointer (some ⟨dg, 0, none⟩)] w fun e w' => e = .returned (.tuple #[.int .i64 (stepA C), .int .i64 (stepE C)]) ∧ ClkAt w' g ob (stepC C) ∧ DevAt w' dg dcb cap (stepD C D) ∧ Only [g, dg, dcb] w w' := by
  have hload := uint64_Load g 2 C.closing w h.clo
  have hp := h.ok.phase
  by_cases h0 : C.phase = 0
  · have hc : C.closing = 0 := (closing_zero h.ok).2 h0
    rw [hc] at hload
    have HL := Lib.hid hload
    have eA : stepA C = 0 := by unfold stepA; rw [if_pos h0]
    have eE : stepE C = 12 := by unfold stepE; rw [if_pos h0]
    have eC : stepC C = C := by unfold stepC; rw [if_pos h0]
    have eD : stepD C D = D := by unfold stepD; rw [if_pos h0]
    rw [eA, eE, eC, eD]
    have H := Lib.hid h
    have HD := Lib.hid hd
    clear hload h hd hc h0 eA eE eC eD hsep hp
    go_enter Try.func15, Try.ntmps15
    go_wp2_with fail
    refine (HL.out).mono ?_
    rintro e w' ⟨rfl, rfl⟩
    go_wp2
    go_ret2
    exact ⟨rfl, H.out, HD.out, Only.refl _ _⟩
  have hc : ¬ C.closing = 0 := fun e => h0 ((closing_zero h.ok).1 e)
  have hcb : (C.closing == 0) = false := by rw [beq_eq_false_iff_ne]; exact hc
  have c520 := h.step
  have HL := Lib.hid hload
  have eE : stepE C = 0 := by unfold stepE; rw [if_neg h0]
  rw [eE]
  have hcases : C.phase = 1 ∨ C.phase = 2 ∨ C.phase = 3 ∨ C.phase = 4 := by omega
  rcases hcases with h1 | h1 | h1 | h1
  · have HF := Lib.hid (clk_flush g ob dg dcb cap C D w h hd h1 hsep)
    rw [h1] at c520
    have c520' : w.cell? ⟨g, 520, none⟩ = some (.func (.func 40) #[.pointer (some ⟨g, 0, none⟩)] #[]) := c520
    generalize stepA C = sa at *
    generalize stepC C = sc at *
    generalize stepD C D = sd at *
    generalize C.closing = x at *
    clear h hd h1 hsep h0 hp eE hload c520
    go_enter Try.func15, Try.ntmps15
    go_wp2_with fail
    refine (HL.out).mono ?_
    rintro e w' ⟨rfl, rfl⟩
    go_wp2_with fail
    refine HF.out.mono ?_
    rintro e w2 ⟨rfl, c2, d2, o2⟩
    have C2 := Lib.hid c2
    have D2 := Lib.hid d2
    have O2 := Lib.hid o2
    clear c2 d2 o2
    go_wp2
    go_ret2
    exact ⟨rfl, C2.out, D2.out, O2.out⟩
  · have HF := Lib.hid (clk_store g ob dg dcb cap C D w h hd h1 hsep)
    rw [h1] at c520
    have c520' : w.cell? ⟨g, 520, none⟩ = some (.func (.func 65) #[.pointer (some ⟨g, 0, none⟩)] #[]) := c520
    have eA : stepA C = 3 := by unfold stepA; rw [if_neg (by omega), if_neg (by omega), if_pos h1]
    have EC := Lib.hid (show stepC C = ({ C with phase := 3 } : Clk) by unfold stepC; rw [if_neg (by omega), if_neg (by omega), if_pos h1])
    have ED := Lib.hid (show stepD C D = store1 D 1 0 (clockL C.closing.toNat) by unfold stepD; rw [if_neg (by omega), if_neg (by omega), if_pos h1])
    rw [eA]
    generalize stepC C = sc at *
    generalize stepD C D = sd at *
    generalize ({ C with phase := 3 } : Clk) = sc2 at *
    generalize store1 D 1 0 (clockL C.closing.toNat) = sd2 at *
    generalize C.closing = x at *
    clear h hd h1 hsep h0 hp eE hload c520 eA
    go_enter Try.func15, Try.ntmps15
    go_wp2_with fail
    refine (HL.out).mono ?_
    rintro e w' ⟨rfl, rfl⟩
    go_wp2_with fail
    refine HF.out.mono ?_
    rintro e w2 ⟨rfl, c2, d2, o2⟩
    have C2 := Lib.hid c2
    have D2 := Lib.hid d2
    have O2 := Lib.hid o2
    clear c2 d2 o2
    go_wp2
    go_ret2
    rw [EC.out, ED.out]
    exact ⟨rfl, C2.out, D2.out, O2.out⟩
  · have HF := Lib.hid (clk_send g ob dg dcb cap C D w h hd h1 hsep)
    rw [h1] at c520
    have c520' : w.cell? ⟨g, 520, none⟩ = some (.func (.func 75) #[.pointer (some ⟨g, 0, none⟩)] #[]) := c520
    have eA : stepA C = 1 := by unfold stepA; rw [if_neg (by omega), if_neg (by omega), if_neg (by omega), if_pos h1]
    have EC := Lib.hid (show stepC C = ({ C with phase := 4 } : Clk) by unfold stepC; rw [if_neg (by omega), if_neg (by omega), if_neg (by omega), if_pos h1])
    have ED := Lib.hid (show stepD C D = flush1 D 1 by unfold stepD; rw [if_neg (by omega), if_neg (by omega), if_neg (by omega), if_pos h1])
    rw [eA]
    generalize stepC C = sc at *
    generalize stepD C D = sd at *
    generalize ({ C with phase := 4 } : Clk) = sc2 at *
    generalize flush1 D 1 = sd2 at *
    generalize C.closing = x at *
    clear h hd h1 hsep h0 hp eE hload c520 eA
    go_enter Try.func15, Try.ntmps15
    go_wp2_with fail
    refine (HL.out).mono ?_
    rintro e w' ⟨rfl, rfl⟩
    go_wp2_with fail
    refine HF.out.mono ?_
    rintro e w2 ⟨rfl, c2, d2, o2⟩
    have C2 := Lib.hid c2
    have D2 := Lib.hid d2
    have O2 := Lib.hid o2
    clear c2 d2 o2
    go_wp2
    go_ret2
    rw [EC.out, ED.out]
    exact ⟨rfl, C2.out, D2.out, O2.out⟩
  · have HF := Lib.hid (clk_end g ob dg dcb cap C D w h hd h1 hsep)
    rw [h1] at c520
    have c520' : w.cell? ⟨g, 520, none⟩ = some (.func (.func 79) #[.pointer (some ⟨g, 0, none⟩)] #[]) := c520
    have eA : stepA C = 2 := by unfold stepA; rw [if_neg (by omega), if_neg (by omega), if_neg (by omega), if_neg (by omega)]
    have EC := Lib.hid (show stepC C = ({ C with phase := 0, durable := C.now - 1 } : Clk) by unfold stepC; rw [if_neg (by omega), if_neg (by omega), if_neg (by omega), if_neg (by omega)])
    have ED := Lib.hid (show stepD C D = fenceD D by unfold stepD; rw [if_neg (by omega), if_neg (by omega), if_neg (by omega), if_neg (by omega)])
    rw [eA]
    generalize stepC C = sc at *
    generalize stepD C D = sd at *
    generalize ({ C with phase := 0, durable := C.now - 1 } : Clk) = sc2 at *
    generalize fenceD D = sd2 at *
    generalize C.closing = x at *
    clear h hd h1 hsep h0 hp eE hload c520 eA
    go_enter Try.func15, Try.ntmps15
    go_wp2_with fail
    refine (HL.out).mono ?_
    rintro e w' ⟨rfl, rfl⟩
    go_wp2_with fail
    refine HF.out.mono ?_
    rintro e w2 ⟨rfl, c2, d2, o2⟩
    have C2 := Lib.hid c2
    have D2 := Lib.hid d2
    have O2 := Lib.hid o2
    clear c2 d2 o2
    go_wp2
    go_ret2
    rw [EC.out, ED.out]
    exact ⟨rfl, C2.out, D2.out, O2.out⟩
end Go.Proofs.Ytecdalmnndalgaa
/- The contracts of the reference of chapter 3, first part: the bounds, the bytes of a line, stores. -/
namespace Go.Proofs.FuMem
open Go.RowKit
/-- an array is read, in a region that draws its order -/
theorem still_load_arr {P : Program} {w : World} {ops : Array Oper} {rest : List Oper} {o : Oper} {a : Act} {Q : Act → Prop} (hw : Region.wanted o (yielded ops a.tmps) = true) (T : TypeId) (x : Operand) (ho : o.op = .load T x) (b off : Nat)
    (hx : a.eval x = .pointer (some ⟨b, off, none⟩)) (l : List UInt8) (hc : Bs w (some ⟨b, off, none⟩) l.length l) (n : Nat) (e : TypeId) (hu : P.underlying T = some (.array n e)) (hi : (P.info? T).map (·.size) = some l.length)
    (h : wpStill P ops w Q rest (a.put o.dst (arrV l))) : wpStill P ops w Q (o :: rest) a :=
  wpStill_step fun K hK => by
    rw [if_pos hw]
    have hr := run_loadAt_mid (P := P) w b off T (l.map B) _ (Sl.range hc) hu rfl (by simpa using hi)
    unfold Oper.still execOp
    simp only [ho, hx, Sem.run_bind, hr, Result.andThen_ok, Sem.run_pure]
    exact ⟨rfl, hK _ h⟩
theorem still_only {w wd : World} (h : ({ w with drawn := w.drawn + 1 } : World) = wd) : Only [] w wd := by subst h; exact (Only.refl _ _).drew
end Go.Proofs.FuMem
namespace Go.Proofs.Ytecdalmnndalgaa
open Go.RowKit Go.Proofs.FuMem Go.Proofs.FuNvm Go.Proofs.FuCode
set_option maxRecDepth 100000
abbrev RefAt (w : World) (g cb cap : Nat) (D : Dev) : Prop := IsDev 110 114 w g cb cap D
theorem ref3_Has_no (g cb cap : Nat) (D : Dev) (line : Int) (w : World) (hd : RefAt w g cb cap D) (h : line < 0 ∨ (D.lines.length : Int) ≤ line) :
    Calls Try.prog 51 #[.pointer (some ⟨g, 0, none⟩), .int .i64 line] w fun e w' => e = .returned (.bool false) ∧ w = w' := by
  have hc : w.cell? ⟨g, 0, none⟩ = some (.slice (some ⟨cb, 0, none⟩) D.lines.length cap) := hd.cell 0
  have hf := hd.few
  clear hd
  generalize D.lines.length = m at *
  by_cases h1 : line < 0
  · have q1 : decide (0 ≤ line) = false := by rw [decide_eq_false_iff_not]; omega
    clear h
    go_enter Try.func51, Try.ntmps51
    go_wp2
    go_ret
    exact ⟨rfl, rfl⟩
  · have q1 : decide (0 ≤ line) = true := by rw [decide_eq_true_eq]; omega
    have q2 : decide (line < (m : Int)) = false := by rw [decide_eq_false_iff_not]; omega
    clear h h1
    go_enter Try.func51, Try.ntmps51
    go_wp2
    go_ret
    exact ⟨rfl, rfl⟩
theorem ref3_Has_yes (g cb cap : Nat) (D : Dev) (line : Int) (w : World) (hd : RefAt w g cb cap D) (h : 0 ≤ line ∧ line < (D.lines.length : Int)) :
    Calls Try.prog 51 #[.pointer (some ⟨g, 0, none⟩), .int .i64 line] w fun e w' => e = .returned (.bool true) ∧ w = w' := by
  have hc : w.cell? ⟨g, 0, none⟩ = some (.slice (some ⟨cb, 0, none⟩) D.lines.length cap) := hd.cell 0
  have hf := hd.few
  clear hd
  generalize D.lines.length = m at *
  have q1 : decide (0 ≤ line) = true := by rw [decide_eq_true_eq]; omega
  have q2 : decide (line < (m : Int)) = true := by rw [decide_eq_true_eq]; omega
  clear h
  go_enter Try.func51, Try.ntmps51
  go_wp2
  go_ret
  exact ⟨rfl, rfl⟩
theorem rowZero3 : (Try.prog.info? 91).map (·.zero) = some (some (arrV (List.replicate 64 0))) := by kernel_rfl
theorem arrSize3 : (Try.prog.info? 91).map (·.size) = some 64 := by kernel_rfl
/-- bytes in a block of their own -/
def MadeA (w : World) (l : List UInt8) (v : Value) (w' : World) : Prop := ∃ g, v = .slice (some ⟨g, 0, none⟩) l.length l.length ∧ Bs w' (some ⟨g, 0, none⟩) l.length l ∧ w.heap.size ≤ g ∧ Only [] w w'
theorem ref3_Load_no (g cb cap : Nat) (D : Dev) (line : Int) (w : World) (hd : RefAt w g cb cap D) (h : line < 0 ∨ (D.lines.length : Int) ≤ line) :
    Calls Try.prog 57 #[.pointer (some ⟨g, 0, none⟩), .int .i64 line] w fun e w' => e = .returned (.tuple #[.slice none 0 0, .int .i64 2]) ∧ w = w' := by
  have HT := Lib.hid (ref3_Has_no g cb cap D line w hd h)
  clear hd h
  go_enter Try.func57, Try.ntmps57
  go_wp2_with fail
  refine (HT.out).mono ?_
  rintro e w' ⟨rfl, rfl⟩
  go_wp2
  go_ret2
  exact ⟨rfl, rfl⟩
theorem ref3_Durable_no (g cb cap : Nat) (D : Dev) (line : Int) (w : World) (hd : RefAt w g cb cap D) (h : line < 0 ∨ (D.lines.length : Int) ≤ line) :
    Calls Try.prog 58 #[.pointer (some ⟨g, 0, none⟩), .int .i64 line] w fun e w' => e = .returned (.tuple #[.slice none 0 0, .int .i64 2]) ∧ w = w' := by
  have HT := Lib.hid (ref3_Has_no g cb cap D line w hd h)
  clear hd h
  go_enter Try.func58, Try.ntmps58
  go_wp2_with fail
  refine (HT.out).mono ?_
  rintro e w' ⟨rfl, rfl⟩
  go_wp2
  go_ret2
  exact ⟨rfl, rfl⟩
set_option maxHeartbeats 400000 in
theorem ref3_Load (g cb cap : Nat) (D : Dev) (i : Nat) (x : Line) (hx : D.lines[i]? = some x) (w : World) (hd : RefAt w g cb cap D) :
    Calls Try.prog 57 #[.pointer (some ⟨g, 0, none⟩), .int .i64 i] w fun e w' => ∃ v, e = .returned (.tuple #[v, .int .i64 0]) ∧ MadeA w x.now v w' := by
  obtain ⟨hi, rfl⟩ := List.getElem?_eq_some_iff.1 hx
  have hc : w.cell? ⟨g, 0, none⟩ = some (.slice (some ⟨cb, 0, none⟩) D.lines.length cap) := hd.cell 0
  have hf := hd.few
  have HT := Lib.hid (ref3_Has_yes g cb cap D i w hd (by omega))
  have hlen := (hd.ok.get hi).1
  have hnow := hd.now hi
  generalize (D.lines[i]).now = l at *
  have hz : (List.replicate 64 (0 : UInt8)).length = l.length := by rw [hlen]; rfl
  have hsz : (Try.prog.info? 91).map (·.size) = some l.length := by rw [hlen]; exact arrSize3
  rw [← hlen] at hnow
  have HX := Lib.hid hnow
  have HL := Lib.hid hsz
  have HZ := Lib.hid hz
  have HN := Lib.hid hlen
  clear hd hx hnow hsz hz hlen
  generalize D.lines.length = m at *
  go_enter Try.func57, Try.ntmps57
  go_wp2_with fail
  refine (HT.out).mono ?_
  rintro e w' ⟨rfl, rfl⟩
  go_wp2_with (first
    | ((with_reducible show wpList _ _ _ (Oper.mk (some 18) _ _ _ _ _ :: _) _ _); refine wpList_load_arr rfl 91 (.tmp 17) rfl cb (i * 193) rfl l HX.out 64 5 Try.underlying91 HL.out ?_)
    | ((with_reducible show wpList _ _ _ (Oper.mk (some 6) _ _ _ _ _ :: _) _ _); refine wpList_alloc_arr rfl 91 rfl _ rowZero3 ?_; intro w1 hb1 ho1 hs1)
    | ((with_reducible show wpList _ _ _ (Oper.mk none _ _ _ _ _ :: _) _ _); refine wpList_store_arr rfl 91 (.tmp 6) (.tmp 18) rfl w.heap.size l rfl rfl _ _ hb1 HZ.out HL.out ?_; intro w6 hb6 ho6 hs6))
  go_ret2
  refine ⟨_, rfl, w.heap.size, by rw [HN.out]; rfl, Arr.bs hb6, Nat.le_refl _, ho1.trans ho6 (by simp)⟩
set_option maxHeartbeats 400000 in
theorem ref3_Durable (g cb cap : Nat) (D : Dev) (i : Nat) (x : Line) (hx : D.lines[i]? = some x) (w : World) (hd : RefAt w g cb cap D) :
    Calls Try.prog 58 #[.pointer (some ⟨g, 0, none⟩), .int .i64 i] w fun e w' => ∃ v, e = .returned (.tuple #[v, .int .i64 0]) ∧ MadeA w x.kept v w' := by
  obtain ⟨hi, rfl⟩ := List.getElem?_eq_some_iff.1 hx
  have hc : w.cell? ⟨g, 0, none⟩ = some (.slice (some ⟨cb, 0, none⟩) D.lines.length cap) := hd.cell 0
  have hf := hd.few
  have HT := Lib.hid (ref3_Has_yes g cb cap D i w hd (by omega))
  have hlen := (hd.ok.get hi).2.1
  have hnow := hd.kept hi
  generalize (D.lines[i]).kept = l at *
  have hz : (List.replicate 64 (0 : UInt8)).length = l.length := by rw [hlen]; rfl
  have hsz : (Try.prog.info? 91).map (·.size) = some l.length := by rw [hlen]; exact arrSize3
  have hnow2 : Bs w (some ⟨cb, i * 193 + 64, none⟩) l.length l := hlen.symm ▸ hnow
  have HX2 := Lib.hid hnow2
  have HL := Lib.hid hsz
  have HZ := Lib.hid hz
  have HN := Lib.hid hlen
  clear hd hx hnow hnow2 hsz hz hlen
  generalize D.lines.length = m at *
  go_enter Try.func58, Try.ntmps58
  go_wp2_with fail
  refine (HT.out).mono ?_
  rintro e w' ⟨rfl, rfl⟩
  go_wp2_with (first
    | ((with_reducible show wpList _ _ _ (Oper.mk (some 18) _ _ _ _ _ :: _) _ _); refine wpList_load_arr rfl 91 (.tmp 17) rfl cb (i * 193 + 64) rfl l HX2.out 64 5 Try.underlying91 HL.out ?_)
    | ((with_reducible show wpList _ _ _ (Oper.mk (some 6) _ _ _ _ _ :: _) _ _); refine wpList_alloc_arr rfl 91 rfl _ rowZero3 ?_; intro w1 hb1 ho1 hs1)
    | ((with_reducible show wpList _ _ _ (Oper.mk none _ _ _ _ _ :: _) _ _); refine wpList_store_arr rfl 91 (.tmp 6) (.tmp 18) rfl w.heap.size l rfl rfl _ _ hb1 HZ.out HL.out ?_; intro w6 hb6 ho6 hs6))
  go_ret2
  refine ⟨_, rfl, w.heap.size, by rw [HN.out]; rfl, Arr.bs hb6, Nat.le_refl _, ho1.trans ho6 (by simp)⟩
theorem set_over (l : List UInt8) (k : Nat) (v : UInt8) (h : k < l.length) : l.set k v = over l k [v] := by
  unfold over
  rw [List.set_eq_take_append_cons_drop, if_pos h]
  simp
section
variable {tD tC : TypeId} {w w' : World} {g cb cap : Nat} {D : Dev}
theorem IsDev.setByte (h : IsDev tD tC w g cb cap D) {i : Nat} (hi : i < D.lines.length) {o : Nat} (ho : o < 64) (v : UInt8) {z : Int} (hz : z = v.toNat) :
    IsDev tD tC (w.setCell ⟨cb, i * 193 + o, none⟩ (.int .u8 z)) g cb cap { D with lines := D.lines.set i { D.lines[i] with now := (D.lines[i]).now.set o v } } ∧ Only [cb] w (w.setCell ⟨cb, i * 193 + o, none⟩ (.int .u8 z)) := by
  subst hz
  have on : Only [cb] w (w.setCell ⟨cb, i * 193 + o, none⟩ (B v)) := (Only.refl [cb] w).setCell (p := ⟨cb, i * 193 + o, none⟩) (.inl (by simp)) _
  obtain ⟨cs, hb, hp⟩ := h.body
  have hs := body_size h.ok hp
  have hi2 : (i + 1) * 193 ≤ D.lines.length * 193 := Nat.mul_le_mul_right _ hi
  have hb2 := hb.set (i * 193 + o) (B v)
  have hok := h.ok.get hi
  rw [set_splice cs _ _ (by omega)] at hb2
  refine ⟨h.write hi (o := o) (vs := [B v]) (by simp; omega) ?_ ?_ cs hp hb2 on, on⟩
  · have := over_cells (D.lines[i]) hok o [v] (by simp; omega)
    rw [set_over _ _ _ (by rw [hok.1]; exact ho)]
    exact this
  · exact ⟨by rw [List.length_set]; exact hok.1, hok.2.1, hok.2.2⟩
end
/-- a line of which some bytes are stored already -/
def stored (x : Line) (a : Nat) (l : List UInt8) (j : Nat) : Line := { x with now := over x.now a (l.take j) }
theorem stored_zero (x : Line) (a : Nat) (l : List UInt8) : stored x a l 0 = x := by
  unfold stored
  rw [List.take_zero, over_nil]
theorem stored_succ (x : Line) (a : Nat) (l : List UInt8) (j : Nat) (h : a + l.length ≤ x.now.length) (hj : j < l.length) : { stored x a l j with now := (stored x a l j).now.set (a + j) (l.getD j 0) } = stored x a l (j + 1) := by
  unfold stored
  simp only
  rw [over_take_succ x.now l a j h hj]
theorem set_set_line (L : List Line) (i : Nat) (x y : Line) : (L.set i x).set i y = L.set i y := List.set_set ..
set_option maxHeartbeats 1000000 in
theorem ref3_Store_any (g cb cap : Nat) (D : Dev) (line pos : Int) (A : Option Addr) (n c : Nat) (l : List UInt8) (w : World) (hd : RefAt w g cb cap D) (hl : Bs w A n l) (hn : n ≤ maxLen) (hsafe : 0 < n → ∀ b off s, A = some ⟨b, off, s⟩ → b ≠ cb)
    (h1 : -9223372036854775808 ≤ pos ∧ pos ≤ 9223372036854775807) :
    Calls Try.prog 31 #[.pointer (some ⟨g, 0, none⟩), .int .i64 line, .int .i64 pos, .slice A n c] w fun e w' => e = .returned (.int .i64 (ansOf (noPlace D.lines.length line pos l.length))) ∧ RefAt w' g cb cap (store1 D line pos l) ∧ Only [g, cb] w w' := by
  have hlen : l.length = n := hl.len
  unfold maxLen at hn
  unfold ansOf store1
  rw [hlen]
  by_cases h : noPlace D.lines.length line pos n
  · rw [if_pos h, if_pos h]
    unfold noPlace at h
    have HD := Lib.hid hd
    have HN := Lib.hid hlen
    by_cases hh : line < 0 ∨ (D.lines.length : Int) ≤ line
    · have HT := Lib.hid (ref3_Has_no g cb cap D line w hd hh)
      clear hd hl h hh hlen hsafe
      go_enter Try.func31, Try.ntmps31
      go_wp2_with fail
      refine (HT.out).mono ?_
      rintro e w' ⟨rfl, rfl⟩
      go_wp2
      go_ret
      exact ⟨rfl, HD.out, Only.refl _ _⟩
    have HT := Lib.hid (ref3_Has_yes g cb cap D line w hd (by omega))
    by_cases hp : pos < 0
    · have q1 : decide (pos < 0) = true := by simpa using hp
      clear hd hl h hh hlen hsafe
      go_enter Try.func31, Try.ntmps31
      go_wp2_with fail
      refine (HT.out).mono ?_
      rintro e w' ⟨rfl, rfl⟩
      go_wp2
      go_ret
      exact ⟨rfl, HD.out, Only.refl _ _⟩
    have q1 : decide (pos < 0) = false := by simpa using hp
    by_cases hp2 : 64 < pos
    · have q2 : decide (64 < pos) = true := by simpa using hp2
      clear hd hl h hh hlen hsafe
      go_enter Try.func31, Try.ntmps31
      go_wp2_with fail
      refine (HT.out).mono ?_
      rintro e w' ⟨rfl, rfl⟩
      go_wp2
      go_ret
      exact ⟨rfl, HD.out, Only.refl _ _⟩
    have q2 : decide (64 < pos) = false := by simpa using hp2
    have q3 : decide (64 - pos < (n : Int)) = true := by rw [decide_eq_true_eq]; omega
    have hp0 : 0 ≤ pos := by omega
    have hp1 : pos ≤ 64 := by omega
    clear hd hl h hh hlen hsafe hp hp2
    go_enter Try.func31, Try.ntmps31
    go_wp2_with fail
    refine (HT.out).mono ?_
    rintro e w' ⟨rfl, rfl⟩
    go_wp2
    go_ret
    exact ⟨rfl, HD.out, Only.refl _ _⟩
  · rw [if_neg h, if_neg h]
    have h' := h
    unfold noPlace at h'
    obtain ⟨i, rfl⟩ := Int.eq_ofNat_of_zero_le (show 0 ≤ line by omega)
    obtain ⟨a, rfl⟩ := Int.eq_ofNat_of_zero_le (show 0 ≤ pos by omega)
    rw [Int.toNat_natCast, Int.toNat_natCast]
    have hi : i < D.lines.length := by omega
    have HT := Lib.hid (ref3_Has_yes g cb cap D i w hd (by omega))
    have q1 : decide ((a : Int) < 0) = false := by rw [decide_eq_false_iff_not]; omega
    have q2 : decide ((64 : Int) < (a : Int)) = false := by rw [decide_eq_false_iff_not]; omega
    have q3 : decide ((64 : Int) - (a : Int) < (n : Int)) = false := by rw [decide_eq_false_iff_not]; omega
    have ha : a + n ≤ 64 := by omega
    have hx := lineOf_get hi
    generalize hxl : lineOf D (i : Int) = x at *
    have hok := hd.ok.get hi
    rw [List.getElem?_eq_getElem hi] at hx
    have hx2 := Option.some.inj hx
    rw [hx2] at hok
    have hf := hd.few
    have HX := Lib.hid hx2
    have HOK := Lib.hid hok
    have HD := Lib.hid hd
    have HB := Lib.hid hl
    have HN := Lib.hid hlen
    have HSF := Lib.hid hsafe
    have hg2 := hd.lt2
    have hne := hd.ne
    obtain ⟨m, hm⟩ : ∃ m, m = D.lines.length := ⟨_, rfl⟩
    rw [← hm] at hi hf
    have HM := Lib.hid hm
    clear h h' hd hl hlen hsafe hok hx hx2 hxl hm
    go_enter Try.func31, Try.ntmps31
    go_wp2_with fail
    refine (HT.out).mono ?_
    rintro e w' ⟨rfl, rfl⟩
    go_wp2
    go_loopw [9] (fun k wr => ∃ j : Nat, j ≤ n ∧ k = .int .i64 j ∧ RefAt wr g cb cap { D with lines := D.lines.set i (stored x a l j) } ∧ Only [cb] w wr) (fun k _ => n - (intOf k).toNat)
    case atStart => exact ⟨0, Nat.zero_le _, rfl, by rw [stored_zero, ← HX.out, List.set_getElem_self]; exact HD.out, Only.refl _ _⟩
    case round =>
      obtain ⟨j, hj, rfl, hd, on⟩ := hrel
      by_cases hlt : j < n
      · have hc0 : wr.cell? ⟨g, 0, none⟩ = some (.slice (some ⟨cb, 0, none⟩) m cap) := by
          rw [hd.cell 0, HM.out]
          simp [headOf]
        obtain ⟨b, off, rfl, hcl⟩ := HB.out.at_ (by omega)
        have hjl : j < l.length := by rw [HN.out]; exact hlt
        have hb0 := hcl j hjl
        have hbc : wr.cell? ⟨b, off + j, none⟩ = some (.int .u8 ((l[j].toNat : Nat) : Int)) := by
          rw [cell_only on (lt_of_cell hb0) (by have := HSF.out (by omega) b off none rfl; simpa using this)]
          exact hb0
        have hil : i < (D.lines.set i (stored x a l j)).length := by rw [List.length_set, ← HM.out]; exact hi
        have hfz := hd.frozen2 (i * 193 + (a + j))
        have hcx := hd.now (i := i) hil
        obtain ⟨b2, off2, e2, hcl2⟩ := hcx.at_ (by omega)
        cases e2
        have hold0 := hcl2 (a + j) (by rw [hcx.len]; omega)
        have ON := Lib.hid on
        have HDR := Lib.hid hd
        have HST := Lib.hid (stored_succ x a l j (by rw [HOK.out.1, HN.out]; exact ha) hjl)
        have HLJ := Lib.hid (show ((l[j].toNat : Nat) : Int) = ((l.getD j 0).toNat : Int) by simp [List.getD, List.getElem?_eq_getElem hjl])
        obtain ⟨yo, hold⟩ : ∃ yo : Value, wr.cell? ⟨cb, i * 193 + (a + j), none⟩ = some yo := ⟨_, hold0⟩
        clear hold0
        clear hd on hcl hb0 hcx hcl2
        generalize l[j].toNat = y at *
        have q8 : ((a : Int) + (j : Int)).toNat = a + j := by omega
        have q6 : (0 : Int) ≤ (a : Int) + (j : Int) := by omega
        have q7 : (a : Int) + (j : Int) < 64 := by omega
        have q5 : IntKind.i64.wrap ((a : Int) + (j : Int)) = (a : Int) + (j : Int) := by rw [IntKind.wrap_i64]; omega
        go_wp2_with fail
        refine wp_region_still_tail 15 (by kernel_rfl) (by kernel_rfl) ?_
        simp only [List.take_succ_cons, List.take_zero, List.drop_succ_cons, List.drop_zero]
        generalize hwd : ({ wr with drawn := wr.drawn + 1 } : World) = wd
        have hc0' : wd.cell? ⟨g, 0, none⟩ = some (.slice (some ⟨cb, 0, none⟩) m cap) := hwd ▸ hc0
        have hbc' : wd.cell? ⟨b, off + j, none⟩ = some (.int .u8 (y : Int)) := hwd ▸ hbc
        have hfz' : wd.frozen? ⟨cb, i * 193 + (a + j), none⟩ = false := hwd ▸ hfz
        have hold' : wd.cell? ⟨cb, i * 193 + (a + j), none⟩ = some yo := hwd ▸ hold
        have hsb := IsDev.setByte (HDR.out.only0 (still_only hwd)) (i := i) hil (o := a + j) (by omega) (l.getD j 0) (z := (y : Int)) HLJ.out
        simp only [List.getElem_set_self, List.set_set] at hsb
        rw [HST.out] at hsb
        have HSB := Lib.hid hsb.1
        have HON := Lib.hid ((ON.out.trans0 (still_only hwd)).trans hsb.2 (by simp))
        clear hwd hc0 hbc hfz hold hsb
        repeat still_step
        refine wpStill_nil ?_
        go_wp2
        go_roundw
        case rel => exact ⟨j + 1, by omega, by go_num, HSB.out, HON.out⟩
        case measure => simp [intOf]; omega
      · obtain rfl : j = n := by omega
        have hfin : stored x a l j = { x with now := over x.now a l } := by
          unfold stored
          rw [List.take_of_length_le (by rw [HN.out]; exact Nat.le_refl _)]
        rw [hfin] at hd
        have hc1 : wr.cell? ⟨g, 1, none⟩ = some (.int .i64 D.stores) := hd.cell 1
        have hf1 := hd.frozen1 1
        have hcnt := IsDev.count (D' := storeD D i x a l) hd 1 (wrap64 (D.stores + 1)) rfl (by unfold storeD headOf; simp)
        have HCN := Lib.hid hcnt
        have ON := Lib.hid on
        clear hd on hfin hcnt
        go_wp2
        go_ret
        exact ⟨rfl, HCN.out.1, (ON.out.mono (by simp)).trans HCN.out.2 (by simp)⟩
end Go.Proofs.Ytecdalmnndalgaa
/- The contracts of the reference of chapter 3, second part: flush, back. -/
namespace Go.Proofs.Ytecdalmnndalgaa
open Go.RowKit Go.Proofs.FuMem Go.Proofs.FuNvm Go.Proofs.FuCode
set_option maxRecDepth 100000
set_option maxHeartbeats 1000000 in
theorem ref3_Flush (g cb cap : Nat) (D : Dev) (i : Nat) (x : Line) (hx : D.lines[i]? = some x) (w : World) (hd : RefAt w g cb cap D) :
    Calls Try.prog 48 #[.pointer (some ⟨g, 0, none⟩), .int .i64 i] w fun e w' => e = .returned (.int .i64 0) ∧ RefAt w' g cb cap (flushD D i x) ∧ Only [g, cb] w w' := by
  obtain ⟨hi, rfl⟩ := List.getElem?_eq_some_iff.1 hx
  have hc : w.cell? ⟨g, 0, none⟩ = some (.slice (some ⟨cb, 0, none⟩) D.lines.length cap) := hd.cell 0
  have hf := hd.few
  have HT := Lib.hid (ref3_Has_yes g cb cap D i w hd (by omega))
  have HD := Lib.hid hd
  have hok := hd.ok.get hi
  have hlen := hok.1
  have hsz : (Try.prog.info? 91).map (·.size) = some (D.lines[i]).now.length := by rw [hlen]; exact arrSize3
  have hsz2 : (Try.prog.info? 91).map (·.size) = some ((D.lines[i]).now.map B).toArray.size := by rw [List.size_toArray, List.length_map, hlen]; exact arrSize3
  have hne := hd.ne
  have hne2 := hd.ne.symm
  have HOK := Lib.hid hok
  have HLEN := Lib.hid hlen
  have HS1 := Lib.hid hsz
  have HS2 := Lib.hid hsz2
  clear hok hlen hsz hsz2 hd hx
  go_enter Try.func48, Try.ntmps48
  go_wp2_with fail
  refine (HT.out).mono ?_
  rintro e w' ⟨rfl, rfl⟩
  go_wp2_with fail
  refine wp_region_still_tail 15 (by kernel_rfl) (by kernel_rfl) ?_
  simp only [List.take_succ_cons, List.take_zero, List.drop_succ_cons, List.drop_zero]
  generalize hwd : ({ w with drawn := w.drawn + 1 } : World) = wd
  have hcd : wd.cell? ⟨g, 0, none⟩ = some (.slice (some ⟨cb, 0, none⟩) D.lines.length cap) := hwd ▸ hc
  have ONW := Lib.hid (still_only hwd)
  clear hwd hc
  have HDW := Lib.hid (HD.out.only0 ONW.out)
  have hnow := HDW.out.now hi
  have hnow2 : Bs wd (some ⟨cb, i * 193, none⟩) (D.lines[i]).now.length (D.lines[i]).now := by rw [HLEN.out]; exact hnow
  obtain ⟨cs, hb, hfit, hwr⟩ := IsDev.ready HDW.out hi
  have hft := hfit 128 (D.lines[i]).now HLEN.out (by omega)
  have HWR := Lib.hid (hwr 128 (D.lines[i]).now { D.lines[i] with way := (D.lines[i]).now } (by rw [HLEN.out]; omega) (cells_way _ HOK.out _ HLEN.out) ⟨HOK.out.1, HOK.out.2.1, HOK.out.1⟩)
  clear hfit hwr hnow
  repeat still_step
  refine still_load_arr rfl 91 (.tmp 20) rfl cb (i * 193) rfl (D.lines[i]).now hnow2 64 5 Try.underlying91 HS1.out ?_
  repeat still_step
  refine wpStill_nil ?_
  go_wp2_with ((with_reducible show wpList _ _ _ (Oper.mk none _ _ _ _ _ :: _) _ _); refine wpList_store_blk rfl 91 (.tmp 23) (.tmp 21) rfl cb (i * 193 + 128) ((D.lines[i]).now.map B).toArray rfl rfl 114 cs hb hft HS2.out (all_B _) ?_; intro w2 hb2 ho2 hs2; have hd2 := HWR.out w2 hb2 ho2; have hc2 : w2.cell? ⟨g, 0, none⟩ = some (.slice (some ⟨cb, 0, none⟩) D.lines.length cap) := (by rw [hd2.cell 0]; simp [headOf]); have hcn : w2.cell? ⟨g, 2, none⟩ = some (.int .i64 D.flushes) := hd2.cell 2; have hfn := hd2.frozen1 2; have hsc := hd2.sentCell (i := i) (by simpa using hi); have hfz := hd2.frozen2 (i * 193 + 192); have HD2 := Lib.hid hd2;clear hd2 hb)
  have hsw := IsDev.setSent HD2.out (i := i) (by simpa using hi) true
  have hl2 : ({ { D with lines := D.lines.set i { D.lines[i] with way := (D.lines[i]).now } } with lines := (D.lines.set i { D.lines[i] with way := (D.lines[i]).now }).set i { ((D.lines.set i { D.lines[i] with way := (D.lines[i]).now })[i]'(by simpa using hi)) with sent := true } } : Dev) = { D with lines := D.lines.set i (flushL (D.lines[i])) } := by
    simp [flushL]
  have hd3 := hsw.1
  rw [hl2] at hd3
  have hcnt := IsDev.count (D' := flushD D i (D.lines[i])) hd3 2 (wrap64 (D.flushes + 1)) rfl (by unfold flushD headOf; simp)
  go_ret
  exact ⟨rfl, hcnt.1, ((((ONW.out.mono (T := [g, cb]) (by simp)).trans ho2 (by simp)).trans hsw.2 (by simp))).trans hcnt.2 (by simp)⟩
theorem ref3_Flush_any (g cb cap : Nat) (D : Dev) (line : Int) (w : World) (hd : RefAt w g cb cap D) :
    Calls Try.prog 48 #[.pointer (some ⟨g, 0, none⟩), .int .i64 line] w fun e w' => e = .returned (.int .i64 (ansOf (noPlace D.lines.length line 0 0))) ∧ RefAt w' g cb cap (flush1 D line) ∧ Only [g, cb] w w' := by
  unfold ansOf flush1
  by_cases h : noPlace D.lines.length line 0 0
  · rw [if_pos h, if_pos h]
    unfold noPlace at h
    have HT := Lib.hid (ref3_Has_no g cb cap D line w hd (by omega))
    have HD := Lib.hid hd
    clear hd h
    go_enter Try.func48, Try.ntmps48
    go_wp2_with fail
    refine (HT.out).mono ?_
    rintro e w' ⟨rfl, rfl⟩
    go_wp2
    go_ret
    exact ⟨rfl, HD.out, Only.refl _ _⟩
  · rw [if_neg h, if_neg h]
    have h' := h
    unfold noPlace at h'
    obtain ⟨i, rfl⟩ := Int.eq_ofNat_of_zero_le (show 0 ≤ line by omega)
    rw [Int.toNat_natCast]
    exact ref3_Flush g cb cap D i _ (lineOf_get (by omega)) w hd
set_option maxHeartbeats 1000000 in
theorem ref3_Back (g cb cap : Nat) (D : Dev) (i : Nat) (x : Line) (hx : D.lines[i]? = some x) (w : World) (hd : RefAt w g cb cap D) :
    Calls Try.prog 33 #[.pointer (some ⟨g, 0, none⟩), .int .i64 i] w fun e w' => e = .returned (.int .i64 0) ∧ RefAt w' g cb cap (backD D i x) ∧ Only [g, cb] w w' := by
  obtain ⟨hi, rfl⟩ := List.getElem?_eq_some_iff.1 hx
  have hc : w.cell? ⟨g, 0, none⟩ = some (.slice (some ⟨cb, 0, none⟩) D.lines.length cap) := hd.cell 0
  have hf := hd.few
  have HT := Lib.hid (ref3_Has_yes g cb cap D i w hd (by omega))
  have HD := Lib.hid hd
  have hok := hd.ok.get hi
  have hlen := hok.1
  have hsz : (Try.prog.info? 91).map (·.size) = some (D.lines[i]).now.length := by rw [hlen]; exact arrSize3
  have hsz2 : (Try.prog.info? 91).map (·.size) = some ((D.lines[i]).now.map B).toArray.size := by rw [List.size_toArray, List.length_map, hlen]; exact arrSize3
  have hne := hd.ne
  have hne2 := hd.ne.symm
  have HOK := Lib.hid hok
  have HLEN := Lib.hid hlen
  have HS1 := Lib.hid hsz
  have HS2 := Lib.hid hsz2
  clear hok hlen hsz hsz2 hd hx
  go_enter Try.func33, Try.ntmps33
  go_wp2_with fail
  refine (HT.out).mono ?_
  rintro e w' ⟨rfl, rfl⟩
  go_wp2_with fail
  refine wp_region_still_tail 15 (by kernel_rfl) (by kernel_rfl) ?_
  simp only [List.take_succ_cons, List.take_zero, List.drop_succ_cons, List.drop_zero]
  generalize hwd : ({ w with drawn := w.drawn + 1 } : World) = wd
  have hcd : wd.cell? ⟨g, 0, none⟩ = some (.slice (some ⟨cb, 0, none⟩) D.lines.length cap) := hwd ▸ hc
  have ONW := Lib.hid (still_only hwd)
  clear hwd hc
  have HDW := Lib.hid (HD.out.only0 ONW.out)
  have hnow := HDW.out.now hi
  have hnow2 : Bs wd (some ⟨cb, i * 193, none⟩) (D.lines[i]).now.length (D.lines[i]).now := by rw [HLEN.out]; exact hnow
  obtain ⟨cs, hb, hfit, hwr⟩ := IsDev.ready HDW.out hi
  have hft := hfit 64 (D.lines[i]).now HLEN.out (by omega)
  have HWR := Lib.hid (hwr 64 (D.lines[i]).now { D.lines[i] with kept := (D.lines[i]).now } (by rw [HLEN.out]; omega) (cells_kept _ HOK.out _ HLEN.out) ⟨HOK.out.1, HOK.out.1, HOK.out.2.2⟩)
  clear hfit hwr hnow
  repeat still_step
  refine still_load_arr rfl 91 (.tmp 20) rfl cb (i * 193) rfl (D.lines[i]).now hnow2 64 5 Try.underlying91 HS1.out ?_
  repeat still_step
  refine wpStill_nil ?_
  go_wp2_with ((with_reducible show wpList _ _ _ (Oper.mk none _ _ _ _ _ :: _) _ _); refine wpList_store_blk rfl 91 (.tmp 23) (.tmp 21) rfl cb (i * 193 + 64) ((D.lines[i]).now.map B).toArray rfl rfl 114 cs hb hft HS2.out (all_B _) ?_; intro w2 hb2 ho2 hs2; have hd2 := HWR.out w2 hb2 ho2; have hc2 : w2.cell? ⟨g, 0, none⟩ = some (.slice (some ⟨cb, 0, none⟩) D.lines.length cap) := (by rw [hd2.cell 0]; simp [headOf]); have hcn : w2.cell? ⟨g, 4, none⟩ = some (.int .i64 D.backs) := hd2.cell 4; have hfn := hd2.frozen1 4; have hsc := hd2.sentCell (i := i) (by simpa using hi); have hfz := hd2.frozen2 (i * 193 + 192); have HD2 := Lib.hid hd2;clear hd2 hb)
  have hsw := IsDev.setSent HD2.out (i := i) (by simpa using hi) false
  have hl2 : ({ { D with lines := D.lines.set i { D.lines[i] with kept := (D.lines[i]).now } } with lines := (D.lines.set i { D.lines[i] with kept := (D.lines[i]).now }).set i { ((D.lines.set i { D.lines[i] with kept := (D.lines[i]).now })[i]'(by simpa using hi)) with sent := false } } : Dev) = { D with lines := D.lines.set i (backL (D.lines[i])) } := by
    simp [backL]
  have hd3 := hsw.1
  rw [hl2] at hd3
  have hcnt := IsDev.count (D' := backD D i (D.lines[i])) hd3 4 (wrap64 (D.backs + 1)) rfl (by unfold backD headOf; simp)
  go_ret
  exact ⟨rfl, hcnt.1, ((((ONW.out.mono (T := [g, cb]) (by simp)).trans ho2 (by simp)).trans hsw.2 (by simp))).trans hcnt.2 (by simp)⟩
theorem ref3_Back_any (g cb cap : Nat) (D : Dev) (line : Int) (w : World) (hd : RefAt w g cb cap D) :
    Calls Try.prog 33 #[.pointer (some ⟨g, 0, none⟩), .int .i64 line] w fun e w' => e = .returned (.int .i64 (ansOf (noPlace D.lines.length line 0 0))) ∧ RefAt w' g cb cap (back1 D line) ∧ Only [g, cb] w w' := by
  unfold ansOf back1
  by_cases h : noPlace D.lines.length line 0 0
  · rw [if_pos h, if_pos h]
    unfold noPlace at h
    have HT := Lib.hid (ref3_Has_no g cb cap D line w hd (by omega))
    have HD := Lib.hid hd
    clear hd h
    go_enter Try.func33, Try.ntmps33
    go_wp2_with fail
    refine (HT.out).mono ?_
    rintro e w' ⟨rfl, rfl⟩
    go_wp2
    go_ret
    exact ⟨rfl, HD.out, Only.refl _ _⟩
  · rw [if_neg h, if_neg h]
    have h' := h
    unfold noPlace at h'
    obtain ⟨i, rfl⟩ := Int.eq_ofNat_of_zero_le (show 0 ≤ line by omega)
    rw [Int.toNat_natCast]
    exact ref3_Back g cb cap D i _ (lineOf_get (by omega)) w hd
end Go.Proofs.Ytecdalmnndalgaa
/- The contracts of the reference of chapter 3, third part: the fence; lines that are loose, lines on their way; a new device. -/
namespace Go.Proofs.Ytecdalmnndalgaa
open Go.RowKit Go.Proofs.FuMem Go.Proofs.FuNvm Go.Proofs.FuCode
set_option maxRecDepth 100000
set_option maxHeartbeats 2000000 in
theorem ref3_Fence (g cb cap : Nat) (D : Dev) (w : World) (hd : RefAt w g cb cap D) :
    Calls Try.prog 49 #[.pointer (some ⟨g, 0, none⟩)] w fun e w' => e = .returned (.tuple #[]) ∧ RefAt w' g cb cap (fenceD D) ∧ Only [g, cb] w w' := by
  have hf := hd.few
  have hne := hd.ne
  have hne2 := hd.ne.symm
  have HD := Lib.hid hd
  clear hd
  obtain ⟨m, hm⟩ : ∃ m, m = D.lines.length := ⟨_, rfl⟩
  rw [← hm] at hf
  have HM := Lib.hid hm
  clear hm
  go_enter Try.func49, Try.ntmps49
  go_wp2
  go_loopw [2] (fun i wr => ∃ k : Nat, k ≤ m ∧ i = .int .i64 k ∧ RefAt wr g cb cap { D with lines := upTo (fun _ x => fenceL x) D.lines k } ∧ Only [cb] w wr) (fun i _ => m - (intOf i).toNat)
  case atStart => exact ⟨0, Nat.zero_le _, rfl, by rw [upTo_zero]; exact HD.out, Only.refl _ _⟩
  case round =>
    obtain ⟨k, hk, rfl, hd, on⟩ := hrel
    have hcr0 : wr.cell? ⟨g, 0, none⟩ = some (.slice (some ⟨cb, 0, none⟩) m cap) := by
      rw [hd.cell 0]
      simp [headOf, upTo_length, HM.out]
    by_cases hlt : k < m
    · have hkl : k < D.lines.length := by rw [← HM.out]; exact hlt
      have hkl2 : k < (upTo (fun _ x => fenceL x) D.lines k).length := by rw [upTo_length]; exact hkl
      obtain ⟨hq1, hq2⟩ := List.getElem?_eq_some_iff.1 (upTo_get (fun _ x => fenceL x) D.lines k hkl)
      have hsc := hd.sentCell (i := k) hkl2
      simp only [hq2] at hsc
      have hok := HD.out.ok.get hkl
      by_cases hsent : (D.lines[k]).sent = true
      · rw [hsent] at hsc
        have hlen := hok.2.2
        have hsz : (Try.prog.info? 91).map (·.size) = some (D.lines[k]).way.length := by rw [hlen]; exact arrSize3
        have hsz2 : (Try.prog.info? 91).map (·.size) = some ((D.lines[k]).way.map B).toArray.size := by rw [List.size_toArray, List.length_map, hlen]; exact arrSize3
        have hsucc := upTo_succ (fun _ x => fenceL x) D.lines k hkl
        have hfl : fenceL (D.lines[k]) = { D.lines[k] with kept := (D.lines[k]).way, sent := false } := by unfold fenceL; rw [if_pos hsent]
        have HOK := Lib.hid hok
        have HLEN := Lib.hid hlen
        have HS1 := Lib.hid hsz
        have HS2 := Lib.hid hsz2
        have HDR := Lib.hid hd
        have ON := Lib.hid on
        have HQ := Lib.hid hq2
        have HSU := Lib.hid hsucc
        have HFL := Lib.hid hfl
        clear hok hlen hsz hsz2 hd on hq2 hsucc hfl hsent
        go_wp2_with fail
        refine wp_region_still_tail 15 (by kernel_rfl) (by kernel_rfl) ?_
        simp only [List.take_succ_cons, List.take_zero, List.drop_succ_cons, List.drop_zero]
        generalize hwd : ({ wr with drawn := wr.drawn + 1 } : World) = wd
        have hcd : wd.cell? ⟨g, 0, none⟩ = some (.slice (some ⟨cb, 0, none⟩) m cap) := hwd ▸ hcr0
        have ONW := Lib.hid (still_only hwd)
        clear hwd hcr0 hsc
        have HDW := Lib.hid (HDR.out.only0 ONW.out)
        have hway := HDW.out.way (i := k) hkl2
        simp only [HQ.out] at hway
        have hway2 : Bs wd (some ⟨cb, k * 193 + 128, none⟩) (D.lines[k]).way.length (D.lines[k]).way := by rw [HLEN.out]; exact hway
        obtain ⟨cs, hb, hfit, hwr⟩ := IsDev.ready HDW.out (i := k) hkl2
        have hft := hfit 64 (D.lines[k]).way HLEN.out (by omega)
        have HWR := Lib.hid (hwr 64 (D.lines[k]).way { D.lines[k] with kept := (D.lines[k]).way } (by rw [HLEN.out]; omega) (by simp only [HQ.out]; exact cells_kept _ HOK.out _ HLEN.out) ⟨HOK.out.1, HOK.out.2.2, HOK.out.2.2⟩)
        clear hfit hwr hway
        repeat still_step
        refine still_load_arr rfl 91 (.tmp 31) rfl cb (k * 193 + 128) rfl (D.lines[k]).way hway2 64 5 Try.underlying91 HS1.out ?_
        repeat still_step
        refine wpStill_nil ?_
        go_wp2_with ((with_reducible show wpList _ _ _ (Oper.mk none _ _ _ _ _ :: _) _ _); refine wpList_store_blk rfl 91 (.tmp 34) (.tmp 32) rfl cb (k * 193 + 64) ((D.lines[k]).way.map B).toArray rfl rfl 114 cs hb hft HS2.out (all_B _) ?_; intro w2 hb2 ho2 hs2; have hd2 := HWR.out w2 hb2 ho2; have hc2 : w2.cell? ⟨g, 0, none⟩ = some (.slice (some ⟨cb, 0, none⟩) m cap) := (by rw [hd2.cell 0]; simp [headOf, upTo_length, HM.out]); have hsc := hd2.sentCell (i := k) (by simpa using hkl2); have hfz := hd2.frozen2 (k * 193 + 192); simp only [List.getElem_set_self] at hsc; have HD2 := Lib.hid hd2; have HO2 := Lib.hid ho2; clear hd2 hb ho2 hb2)
        have hsw := IsDev.setSent HD2.out (i := k) (by simpa using hkl2) false
        have he : ∀ D' : Dev, D' = { D with lines := upTo (fun _ x => fenceL x) D.lines (k + 1) } → RefAt (w2.setCell ⟨cb, k * 193 + 192, none⟩ (.bool false)) g cb cap D' → RefAt (w2.setCell ⟨cb, k * 193 + 192, none⟩ (.bool false)) g cb cap { D with lines := upTo (fun _ x => fenceL x) D.lines (k + 1) } := by
          rintro D' rfl h
          exact h
        have hd3 := he _ (by
          rw [← HSU.out, HFL.out]
          simp) hsw.1
        have HD3 := Lib.hid hd3
        have ON3 := Lib.hid ((ON.out.trans0 ONW.out).trans (HO2.out.trans hsw.2 (T := [cb]) (by simp)) (by simp))
        clear hd3 he hsw
        go_roundw
        case rel => exact ⟨k + 1, by omega, by go_num, HD3.out, ON3.out⟩
        case measure => simp [intOf]; omega
      · have hs0 : (D.lines[k]).sent = false := by simpa using hsent
        rw [hs0] at hsc
        have hkeep := upTo_keep (fun _ x => fenceL x) D.lines k hkl (by unfold fenceL; rw [if_neg hsent])
        rw [hkeep] at hd
        have HD2 := Lib.hid hd
        have ON := Lib.hid on
        clear hd on hkeep hsent hs0 hq2 hok
        go_wp2
        go_roundw
        case rel => exact ⟨k + 1, by omega, by go_num, HD2.out, ON.out⟩
        case measure => simp [intOf]; omega
    · obtain rfl : k = m := by omega
      have hall : upTo (fun _ x => fenceL x) D.lines k = D.lines.map fenceL := by rw [HM.out, upTo_all, mapIdx_map]
      rw [hall] at hd
      have hc3 : wr.cell? ⟨g, 3, none⟩ = some (.int .i64 D.fences) := hd.cell 3
      have hf3 := hd.frozen1 3
      have hcnt := IsDev.count (D' := fenceD D) hd 3 (wrap64 (D.fences + 1)) rfl (by unfold fenceD headOf; simp)
      have HCN := Lib.hid hcnt
      have ON := Lib.hid on
      clear hd on hall hcnt
      go_wp2
      go_end0
      exact ⟨rfl, HCN.out.1, (ON.out.mono (T := [g, cb]) (by simp)).trans HCN.out.2 (by simp)⟩
theorem neq_arr3 (l k : List UInt8) (hl : l.length = 64) (hk : k.length = 64) (w : World) : (binOp .neq 91 (arrV l) (arrV k)).run Try.prog w = .ok (.bool (l != k)) w := by
  obtain ⟨i0, hi, hz0, hz1, hz2⟩ := info_parts Try.byteInfo
  exact run_neq_arr Try.underlying91 Try.underlying5 i0 hi hz1 l k hl hk w
theorem arrGuard3 : Try.prog.eqGuardType Try.prog.depth 91 = false := by kernel_rfl
end Go.Proofs.Ytecdalmnndalgaa
/- The reference of chapter 9: Begin whatever is asked, Step. -/
namespace Go.Proofs.Ytecdalmnndalgaa
open Go.RowKit Go.Proofs.FuMem Go.Proofs.FuClk Go.Proofs.FuNvm Go.Proofs.FuGeom
set_option maxRecDepth 100000
theorem ref9_Begin_any (F : List Nat) (base rg : Nat) (R : Ref) (w : World) (h : RCAt w F base rg R) (h4 : R.notes.length ≤ 4) (h1 : 1 ≤ R.notes.length) (hfew : ∀ l ∈ R.notes, l.length ≤ 1000) (hn : 0 ≤ R.now ∧ R.now + 1 < 18446744073709551616) :
    Calls Try.prog 29 #[.pointer (some ⟨rg, 0, none⟩)] w fun e w' => e = .returned (.int .i64 (beginRNo R)) ∧ RCAt w' F base rg (beginRT R) ∧ OnlyX F base w w' := by
  unfold beginRNo beginRT
  cases hc : R.closing with
  | true =>
    refine (ref9_Begin_busy F base rg R w h hc).mono ?_
    rintro e w' ⟨rfl, rfl⟩
    exact ⟨rfl, h, .refl _ _ _⟩
  | false => exact ref9_Begin F base rg R w h hc h4 h1 hfew hn
def stepRD (R : Ref) (D : Dev) : Dev := if R.closing = false then D else match R.left with
  | x :: _ => flush1 D x
  | [] => if R.done + 1 = 1 then fenceD D else if R.done + 1 = 2 then store1 D 1 0 (clockL (R.now - 1).toNat) else if R.done + 1 = 3 then flush1 D 1 else fenceD D
theorem ref9_Step_nil (A : Option Addr) (w : World) :
    Calls Try.prog 30 #[.pointer A, .pointer none] w fun e w' => e = .returned (.tuple #[.int .i64 0, .int .i64 1]) ∧ w = w' := by
  go_enter Try.func30, Try.ntmps30
  go_wp2
  go_ret2
  exact ⟨rfl, rfl⟩
theorem ref9_Step_idle (F : List Nat) (base rg vg : Nat) (R : Ref) (w : World) (h : RCAt w F base rg R) (hc : R.closing = false) :
    Calls Try.prog 30 #[.pointer (some ⟨rg, 0, none⟩), .pointer (some ⟨vg, 0, none⟩)] w fun e w' => e = .returned (.tuple #[.int .i64 0, .int .i64 12]) ∧ w = w' := by
  obtain ⟨nb, vs, lv, h⟩ := h
  have h3 : w.cell? ⟨rg, 3, none⟩ = some (.bool R.closing) := h.head.cell 3
  rw [hc] at h3
  clear h
  go_enter Try.func30, Try.ntmps30
  go_wp2
  go_ret2
  exact ⟨rfl, rfl⟩
theorem onlyX_dev {F0 : List Nat} {base vg vb rg : Nat} {w w2 w4 : World} (o2 : Only [vg, vb] w w2) (o4 : Only [rg] w2 w4) (hb : base ≤ vg ∧ base ≤ vb) (hF : vg ∉ F0 ∧ vb ∉ F0) (hr : rg ∉ vg :: vb :: F0 ∧ base ≤ rg) : OnlyX F0 base w w4 := by
  refine ⟨[vg, vb, rg], (o2.mono (by simp)).trans o4 (by simp), fun b hm => ?_⟩
  simp at hm
  rcases hm with rfl | rfl | rfl
  · exact ⟨hF.1, hb.1⟩
  · exact ⟨hF.2, hb.2⟩
  · exact ⟨fun h => hr.1 (by simp [h]), hr.2⟩
theorem dev_apart {w2 w4 : World} {F0 : List Nat} {vg vb cap rg : Nat} {D : Dev} (d : RefAt w2 vg vb cap D) (o4 : Only [rg] w2 w4) (hr : rg ∉ vg :: vb :: F0) : RefAt w4 vg vb cap D := by
  simp at hr
  exact d.only o4 (by simp; omega) (by simp; omega)
set_option maxHeartbeats 1000000 in
theorem ref9_Step_left (F0 : List Nat) (base rg vg vb cap : Nat) (R : Ref) (x : Int) (l : List Int) (D : Dev) (w : World) (h : RCAt w (vg :: vb :: F0) base rg R) (hd : RefAt w vg vb cap D) (hc : R.closing = true) (hl : R.left = x :: l) (hlen : l.length ≤ 258) (hb : base ≤ vg ∧ base ≤ vb) (hF : vg ∉ F0 ∧ vb ∉ F0) :
    Calls Try.prog 30 #[.pointer (some ⟨rg, 0, none⟩), .pointer (some ⟨vg, 0, none⟩)] w fun e w' => e = .returned (.tuple #[.int .i64 1, .int .i64 0]) ∧ RCAt w' (vg :: vb :: F0) base rg { R with left := l } ∧ RefAt w' vg vb cap (flush1 D x) ∧ OnlyX F0 base w w' := by
  obtain ⟨i0, hi, hz0, hz1, hz2⟩ := info_parts Try.intInfo
  have HI := Lib.hid hi
  have HZ0 := Lib.hid hz0
  have HZ1 := Lib.hid hz1
  have HZ2 := Lib.hid hz2
  obtain ⟨nb, vs, lv, h⟩ := h
  have h3 : w.cell? ⟨rg, 3, none⟩ = some (.bool R.closing) := h.head.cell 3
  rw [hc] at h3
  obtain ⟨A, c, rfl, his, hab, hcap⟩ := h.left
  rw [hl] at his h hcap
  have h4 : w.cell? ⟨rg, 4, none⟩ = some (.slice A (x :: l).length c) := h.head.cell 4
  obtain ⟨b, off, rfl, hcells⟩ := his.at_ (by simp)
  have hx : w.cell? ⟨b, off, none⟩ = some (.int .i64 x) := hcells 0 (by simp)
  have HFL := Lib.hid (ref3_Flush_any vg vb cap D x w hd)
  have hll : (x :: l).length = l.length + 1 := rfl
  rw [hll] at h4
  rw [hll] at hcap h
  have hlt : (0 : Int) < ((l.length + 1 : Nat) : Int) := by omega
  have q1 : decide ((0 : Int) < ((l.length + 1 : Nat) : Int)) = true := by simp
  have HIN := Lib.hid h
  have HIS := Lib.hid his
  have HAB := Lib.hid hab
  obtain ⟨n, hn⟩ : ∃ n, n = l.length := ⟨_, rfl⟩
  rw [← hn] at h4 hlen hcap hlt q1 HIN
  have HN := Lib.hid hn
  clear h his hab hd hl hll hn hcells hi hz0 hz1 hz2
  go_enter Try.func30, Try.ntmps30
  go_wp2_with fail
  refine HFL.out.mono ?_
  rintro e w2 ⟨rfl, d2, o2⟩
  have h2 := HIN.out.only o2 (by simp)
  have c2 : w2.cell? ⟨rg, 4, none⟩ = some (.slice (some ⟨b, off, none⟩) (n + 1) c) := h2.head.cell 4
  have is2 := HIS.out.only o2 (fun b' off' q e hb' => (HAB.out b' off' q e).1 (by simp at hb' ⊢; rcases hb' with rfl | rfl <;> simp))
  have HIS2 : Hid (∀ A1, (A1 = some (⟨b, off + 1, none⟩ : Addr) ∨ n = 0) → Is w2 A1 n l) := Lib.hid (fun A1 h => by
    by_cases hn0 : n = 0
    · have hl0 : l = [] := List.eq_nil_of_length_eq_zero (by have := HN.out; omega)
      subst hl0
      rw [hn0]
      exact Is.nil _ _
    · rcases h with rfl | h
      · obtain ⟨b', off', e, hcells⟩ := is2.at_ (by simp)
        cases e
        refine ⟨by have := HN.out; simp; omega, .inr ⟨b, off + 1, rfl, fun k hk => ?_⟩⟩
        have hk' : k < l.length := by have := HN.out; omega
        have := hcells (k + 1) (by simp; omega)
        rw [show off + 1 + k = off + (k + 1) by omega, this]
        simp [hk']
      · exact absurd h hn0)
  have HAPP : Hid (∀ A1 cap, (A1 = some (⟨b, off + 1, none⟩ : Addr) ∨ n = 0) → ∃ A' c' w', (Builtin.append_ #[42, 42] 42 #[.slice none 0 0, .slice A1 n cap]).run Try.prog w2 = .ok (.slice A' n c') w' ∧
      Hid (Only [] w2 w' ∧ RCAt (w'.setCell ⟨rg, 4, none⟩ (.slice A' n c')) (vg :: vb :: F0) base rg { R with left := l } ∧ Only [rg] w2 (w'.setCell ⟨rg, 4, none⟩ (.slice A' n c'))) ∧ w'.cell? ⟨rg, 4, none⟩ = some (.slice (some ⟨b, off, none⟩) (n + 1) c) ∧ w'.frozen? ⟨rg, 4, none⟩ = false) := Lib.hid (fun A1 cap h => by
    obtain ⟨A', c', w', hr, ho, _, on⟩ := append_fresh (P := Try.prog) w2 42 42 3 i0 _ 8 Try.underlying42 HI.out HZ0.out HZ1.out HZ2.out rfl A1 n cap _ (HIS2.out A1 h) one_I (by unfold maxLen; omega) (by omega)
    have hs := h2.setLeft on (Apt.own ho h2.all)
    have h3 := h2.only0 on
    exact ⟨A', c', w', hr, ⟨on, ⟨_, _, _, hs.1⟩, hs.2⟩, h3.head.cell 4, h3.head.frozen 4⟩)
  have D2 := Lib.hid d2
  have HLT2 := Lib.hid h2.all
  have HMN := Lib.hid h2.mine
  have O2 := Lib.hid o2
  clear h2 is2 d2 o2 HIS2
  by_cases hc1 : c = 1
  · subst hc1
    obtain rfl : n = 0 := by omega
    obtain ⟨A3, c3, w3, hr, H3, c34, f34⟩ := HAPP.out (some ⟨b, off, none⟩) 0 (.inr rfl)
    clear HAPP
    go_wp2_with (at_builtin; refine wpList_append_run _ rfl (.const (.slice none 0 0)) (.tmp 32) 42 rfl _ _ rfl rfl _ _ hr ?_)
    go_ret2
    obtain ⟨o3, h4, o4⟩ := H3.out
    exact ⟨rfl, h4, dev_apart D2.out o4 (HMN.out rg (by simp)).1, onlyX_dev O2.out o4 hb hF (HMN.out rg (by simp))⟩
  · obtain ⟨A3, c3, w3, hr, H3, c34, f34⟩ := HAPP.out (some ⟨b, off + 1, none⟩) (c - 1) (.inl rfl)
    clear HAPP
    go_wp2_with (at_builtin; refine wpList_append_run _ rfl (.const (.slice none 0 0)) (.tmp 32) 42 rfl _ _ rfl rfl _ _ hr ?_)
    go_ret2
    obtain ⟨o3, h4, o4⟩ := H3.out
    exact ⟨rfl, h4, dev_apart D2.out o4 (HMN.out rg (by simp)).1, onlyX_dev O2.out o4 hb hF (HMN.out rg (by simp))⟩
-- DONE STEPS
set_option maxHeartbeats 2000000 in
theorem ref9_Step_0 (F0 : List Nat) (base rg vg vb cap : Nat) (R : Ref) (v : Nat) (D : Dev) (w : World) (h : RCAt w (vg :: vb :: F0) base rg R) (hd : RefAt w vg vb cap D) (hc : R.closing = true) (hl : R.left = []) (hv : R.now - 1 = (v : Int)) (hv2 : v < 18446744073709551616) (hk : R.done = 0) (hb : base ≤ vg ∧ base ≤ vb) (hF : vg ∉ F0 ∧ vb ∉ F0) :
    Calls Try.prog 30 #[.pointer (some ⟨rg, 0, none⟩), .pointer (some ⟨vg, 0, none⟩)] w fun e w' => e = .returned (.tuple #[.int .i64 2, .int .i64 0]) ∧
      RCAt w' (vg :: vb :: F0) base rg { R with done := 1 } ∧ RefAt w' vg vb cap (fenceD D) ∧ OnlyX F0 base w w' := by
  obtain ⟨nb, vs, lv, h⟩ := h
  have h3 : w.cell? ⟨rg, 3, none⟩ = some (.bool R.closing) := h.head.cell 3
  rw [hc] at h3
  obtain ⟨A, c, rfl, his, hab, hcap⟩ := h.left
  have h4 : w.cell? ⟨rg, 4, none⟩ = some (.slice A R.left.length c) := h.head.cell 4
  rw [hl] at h4
  have h4 : w.cell? ⟨rg, 4, none⟩ = some (.slice A 0 c) := h4
  have h5 : w.cell? ⟨rg, 5, none⟩ = some (.int .i64 R.done) := h.head.cell 5
  have f5 := h.head.frozen 5
  rw [hk] at h5
  have hs := h.setHead (i := 5) (u := .int .i64 1) (R' := { R with done := 1 }) rfl rfl rfl
  have HO1 := Lib.hid hs.2
  have HD1 := Lib.hid (dev_apart hd hs.2 (h.mine rg (by simp)).1)
  have HMN := Lib.hid (h.mine rg (by simp))
  have HIN := Lib.hid hs.1
  have hwv : IntKind.u64.wrap (R.now - 1) = (v : Int) := by rw [hv, IntKind.wrap_u64]; omega
  have h0 : w.cell? ⟨rg, 0, none⟩ = some (.int .u64 R.now) := h.head.cell 0
  have HV := Lib.hid hv
  have HVB := Lib.hid hd.lt2
  have HDV := Lib.hid (ref3_Fence vg vb cap D _ HD1.out)
  clear h his hab hd hs hcap hv hk hl
  go_enter Try.func30, Try.ntmps30
  go_wp2_with fail
  refine HDV.out.mono ?_
  rintro e w3 ⟨rfl, d3, o3⟩
  have h3' := HIN.out.only o3 (by simp)
  have HD3 := Lib.hid d3
  have HO3 := Lib.hid o3
  have HF := Lib.hid h3'
  clear d3 o3 h3'
  go_wp2
  go_ret2
  refine ⟨rfl, ⟨_, _, _, HF.out⟩, HD3.out, ⟨[rg, vg, vb], (HO1.out.mono (by simp)).trans HO3.out (by simp), fun b hm => ?_⟩⟩
  simp at hm
  have hmn := HMN.out
  rcases hm with rfl | rfl | rfl
  · exact ⟨fun h => hmn.1 (by simp [h]), hmn.2⟩
  · exact ⟨hF.1, hb.1⟩
  · exact ⟨hF.2, hb.2⟩
set_option maxHeartbeats 2000000 in
theorem ref9_Step_1 (F0 : List Nat) (base rg vg vb cap : Nat) (R : Ref) (v : Nat) (D : Dev) (w : World) (h : RCAt w (vg :: vb :: F0) base rg R) (hd : RefAt w vg vb cap D) (hc : R.closing = true) (hl : R.left = []) (hv : R.now - 1 = (v : Int)) (hv2 : v < 18446744073709551616) (hk : R.done = 1) (hb : base ≤ vg ∧ base ≤ vb) (hF : vg ∉ F0 ∧ vb ∉ F0) :
    Calls Try.prog 30 #[.pointer (some ⟨rg, 0, none⟩), .pointer (some ⟨vg, 0, none⟩)] w fun e w' => e = .returned (.tuple #[.int .i64 3, .int .i64 0]) ∧
      RCAt w' (vg :: vb :: F0) base rg { R with done := 2 } ∧ RefAt w' vg vb cap (store1 D 1 0 (clockL v)) ∧ OnlyX F0 base w w' := by
  obtain ⟨nb, vs, lv, h⟩ := h
  have h3 : w.cell? ⟨rg, 3, none⟩ = some (.bool R.closing) := h.head.cell 3
  rw [hc] at h3
  obtain ⟨A, c, rfl, his, hab, hcap⟩ := h.left
  have h4 : w.cell? ⟨rg, 4, none⟩ = some (.slice A R.left.length c) := h.head.cell 4
  rw [hl] at h4
  have h4 : w.cell? ⟨rg, 4, none⟩ = some (.slice A 0 c) := h4
  have h5 : w.cell? ⟨rg, 5, none⟩ = some (.int .i64 R.done) := h.head.cell 5
  have f5 := h.head.frozen 5
  rw [hk] at h5
  have hs := h.setHead (i := 5) (u := .int .i64 2) (R' := { R with done := 2 }) rfl rfl rfl
  have HO1 := Lib.hid hs.2
  have HD1 := Lib.hid (dev_apart hd hs.2 (h.mine rg (by simp)).1)
  have HMN := Lib.hid (h.mine rg (by simp))
  have HIN := Lib.hid hs.1
  have hwv : IntKind.u64.wrap (R.now - 1) = (v : Int) := by rw [hv, IntKind.wrap_u64]; omega
  have h0 : w.cell? ⟨rg, 0, none⟩ = some (.int .u64 R.now) := h.head.cell 0
  have HV := Lib.hid hv
  have HVB := Lib.hid hd.lt2
  have HCL := Lib.hid (fun w => ref4_Clock v w hv2)
  clear h his hab hd hs hcap hv hk hl
  go_enter Try.func30, Try.ntmps30
  go_wp2_with fail
  refine (HCL.out _).mono ?_
  rintro e w2 ⟨A2, c2, rfl, b2, o2⟩
  have HD2 := Lib.hid (HD1.out.only0 o2)
  have HIN2 := Lib.hid (HIN.out.only0 o2)
  have HO2 := Lib.hid (HO1.out.trans0 o2)
  have HST := Lib.hid (ref3_Store_any vg vb cap D 1 0 A2 64 c2 (clockL v) w2 HD2.out (bs_own b2) (by unfold maxLen; omega) (by
    intro _ b off s e
    obtain ⟨A', c', hv, _, hb⟩ := own_slice b2
    cases hv
    have := (hb b off s e).1
    have h6 := HVB.out
    have h7 := HO1.out.size
    omega) (by omega))
  clear b2 o2 HD1 HIN HO1 HCL
  go_wp2_with fail
  refine HST.out.mono ?_
  rintro e w3 ⟨rfl, d3, o3⟩
  have h3' := HIN2.out.only o3 (by simp)
  have HD3 := Lib.hid d3
  have HO3 := Lib.hid o3
  have HF := Lib.hid h3'
  clear d3 o3 h3'
  go_wp2
  go_ret2
  refine ⟨rfl, ⟨_, _, _, HF.out⟩, HD3.out, ⟨[rg, vg, vb], (HO2.out.mono (by simp)).trans HO3.out (by simp), fun b hm => ?_⟩⟩
  simp at hm
  have hmn := HMN.out
  rcases hm with rfl | rfl | rfl
  · exact ⟨fun h => hmn.1 (by simp [h]), hmn.2⟩
  · exact ⟨hF.1, hb.1⟩
  · exact ⟨hF.2, hb.2⟩
set_option maxHeartbeats 2000000 in
theorem ref9_Step_2 (F0 : List Nat) (base rg vg vb cap : Nat) (R : Ref) (v : Nat) (D : Dev) (w : World) (h : RCAt w (vg :: vb :: F0) base rg R) (hd : RefAt w vg vb cap D) (hc : R.closing = true) (hl : R.left = []) (hv : R.now - 1 = (v : Int)) (hv2 : v < 18446744073709551616) (hk : R.done = 2) (hb : base ≤ vg ∧ base ≤ vb) (hF : vg ∉ F0 ∧ vb ∉ F0) :
    Calls Try.prog 30 #[.pointer (some ⟨rg, 0, none⟩), .pointer (some ⟨vg, 0, none⟩)] w fun e w' => e = .returned (.tuple #[.int .i64 1, .int .i64 0]) ∧
      RCAt w' (vg :: vb :: F0) base rg { R with done := 3 } ∧ RefAt w' vg vb cap (flush1 D 1) ∧ OnlyX F0 base w w' := by
  obtain ⟨nb, vs, lv, h⟩ := h
  have h3 : w.cell? ⟨rg, 3, none⟩ = some (.bool R.closing) := h.head.cell 3
  rw [hc] at h3
  obtain ⟨A, c, rfl, his, hab, hcap⟩ := h.left
  have h4 : w.cell? ⟨rg, 4, none⟩ = some (.slice A R.left.length c) := h.head.cell 4
  rw [hl] at h4
  have h4 : w.cell? ⟨rg, 4, none⟩ = some (.slice A 0 c) := h4
  have h5 : w.cell? ⟨rg, 5, none⟩ = some (.int .i64 R.done) := h.head.cell 5
  have f5 := h.head.frozen 5
  rw [hk] at h5
  have hs := h.setHead (i := 5) (u := .int .i64 3) (R' := { R with done := 3 }) rfl rfl rfl
  have HO1 := Lib.hid hs.2
  have HD1 := Lib.hid (dev_apart hd hs.2 (h.mine rg (by simp)).1)
  have HMN := Lib.hid (h.mine rg (by simp))
  have HIN := Lib.hid hs.1
  have hwv : IntKind.u64.wrap (R.now - 1) = (v : Int) := by rw [hv, IntKind.wrap_u64]; omega
  have h0 : w.cell? ⟨rg, 0, none⟩ = some (.int .u64 R.now) := h.head.cell 0
  have HV := Lib.hid hv
  have HVB := Lib.hid hd.lt2
  have HDV := Lib.hid (ref3_Flush_any vg vb cap D 1 _ HD1.out)
  clear h his hab hd hs hcap hv hk hl
  go_enter Try.func30, Try.ntmps30
  go_wp2_with fail
  refine HDV.out.mono ?_
  rintro e w3 ⟨rfl, d3, o3⟩
  have h3' := HIN.out.only o3 (by simp)
  have HD3 := Lib.hid d3
  have HO3 := Lib.hid o3
  have HF := Lib.hid h3'
  clear d3 o3 h3'
  go_wp2
  go_ret2
  refine ⟨rfl, ⟨_, _, _, HF.out⟩, HD3.out, ⟨[rg, vg, vb], (HO1.out.mono (by simp)).trans HO3.out (by simp), fun b hm => ?_⟩⟩
  simp at hm
  have hmn := HMN.out
  rcases hm with rfl | rfl | rfl
  · exact ⟨fun h => hmn.1 (by simp [h]), hmn.2⟩
  · exact ⟨hF.1, hb.1⟩
  · exact ⟨hF.2, hb.2⟩
set_option maxHeartbeats 2000000 in
theorem ref9_Step_3 (F0 : List Nat) (base rg vg vb cap : Nat) (R : Ref) (v : Nat) (D : Dev) (w : World) (h : RCAt w (vg :: vb :: F0) base rg R) (hd : RefAt w vg vb cap D) (hc : R.closing = true) (hl : R.left = []) (hv : R.now - 1 = (v : Int)) (hv2 : v < 18446744073709551616) (hk : R.done = 3) (hb : base ≤ vg ∧ base ≤ vb) (hF : vg ∉ F0 ∧ vb ∉ F0) :
    Calls Try.prog 30 #[.pointer (some ⟨rg, 0, none⟩), .pointer (some ⟨vg, 0, none⟩)] w fun e w' => e = .returned (.tuple #[.int .i64 2, .int .i64 0]) ∧
      RCAt w' (vg :: vb :: F0) base rg { R with done := 4, durable := R.now - 1, closing := false } ∧ RefAt w' vg vb cap (fenceD D) ∧ OnlyX F0 base w w' := by
  obtain ⟨nb, vs, lv, h⟩ := h
  have h3 : w.cell? ⟨rg, 3, none⟩ = some (.bool R.closing) := h.head.cell 3
  rw [hc] at h3
  obtain ⟨A, c, rfl, his, hab, hcap⟩ := h.left
  have h4 : w.cell? ⟨rg, 4, none⟩ = some (.slice A R.left.length c) := h.head.cell 4
  rw [hl] at h4
  have h4 : w.cell? ⟨rg, 4, none⟩ = some (.slice A 0 c) := h4
  have h5 : w.cell? ⟨rg, 5, none⟩ = some (.int .i64 R.done) := h.head.cell 5
  have f5 := h.head.frozen 5
  rw [hk] at h5
  have hs := h.setHead (i := 5) (u := .int .i64 4) (R' := { R with done := 4 }) rfl rfl rfl
  have HO1 := Lib.hid hs.2
  have HD1 := Lib.hid (dev_apart hd hs.2 (h.mine rg (by simp)).1)
  have HMN := Lib.hid (h.mine rg (by simp))
  have HIN := Lib.hid hs.1
  have hwv : IntKind.u64.wrap (R.now - 1) = (v : Int) := by rw [hv, IntKind.wrap_u64]; omega
  have h0 : w.cell? ⟨rg, 0, none⟩ = some (.int .u64 R.now) := h.head.cell 0
  have HV := Lib.hid hv
  have HVB := Lib.hid hd.lt2
  have HDV := Lib.hid (ref3_Fence vg vb cap D _ HD1.out)
  clear h his hab hd hs hcap hv hk hl
  go_enter Try.func30, Try.ntmps30
  go_wp2_with fail
  refine HDV.out.mono ?_
  rintro e w3 ⟨rfl, d3, o3⟩
  have h3' := HIN.out.only o3 (by simp)
  have HD3 := Lib.hid d3
  have HO3 := Lib.hid o3
  have c30 : w3.cell? ⟨rg, 0, none⟩ = some (.int .u64 R.now) := h3'.head.cell 0
  have c31 : w3.cell? ⟨rg, 1, none⟩ = some (.int .u64 R.durable) := h3'.head.cell 1
  have c33 : w3.cell? ⟨rg, 3, none⟩ = some (.bool R.closing) := h3'.head.cell 3
  have f31 := h3'.head.frozen 1
  have f33 := h3'.head.frozen 3
  have s1 := h3'.setHead (i := 1) (u := .int .u64 (v : Int)) (R' := { R with done := 4, durable := R.now - 1 }) (by rw [HV.out]; rfl) rfl rfl
  have s2 := s1.1.setHead (i := 3) (u := .bool false) (R' := { R with done := 4, durable := R.now - 1, closing := false }) rfl rfl rfl
  have HF := Lib.hid s2.1
  have o5 := s1.2.trans s2.2 (by simp)
  have HD5 := Lib.hid (dev_apart d3 o5 HMN.out.1)
  have HO5 := Lib.hid o5
  clear d3 o3 h3' s1 s2 o5
  go_wp2
  go_ret2
  refine ⟨rfl, ⟨_, _, _, HF.out⟩, HD5.out, ⟨[rg, vg, vb], ((HO1.out.mono (by simp)).trans HO3.out (by simp)).trans HO5.out (by simp), fun b hm => ?_⟩⟩
  simp at hm
  have hmn := HMN.out
  rcases hm with rfl | rfl | rfl
  · exact ⟨fun h => hmn.1 (by simp [h]), hmn.2⟩
  · exact ⟨hF.1, hb.1⟩
  · exact ⟨hF.2, hb.2⟩
-- DONE END
end Go.Proofs.Ytecdalmnndalgaa
/- Both clocks tell the same: what holds between them, and that it stays so. -/
namespace Go.Proofs.Ytecdalmnndalgaa
open Go.RowKit Go.Proofs.FuMem Go.Proofs.FuClk Go.Proofs.FuNvm Go.Proofs.FuGeom
set_option maxRecDepth 100000
structure Like (C : Clk) (R : Ref) : Prop where
  now : R.now = C.now
  dur : R.durable = C.durable
  owed : C.owed = R.notes.map fun l => (l.length : Int)
  noted : ∀ i : Nat, i < 258 → C.noted.getD i false = notedIn R.notes i
  closing : R.closing = decide (C.phase ≠ 0)
  left : C.phase ≠ 0 → R.left = trues C.left 258
  done1 : C.phase = 1 → R.done = 0
  done : 2 ≤ C.phase → R.done = (C.phase : Int) - 1
theorem notedIn_iff (N : List (List Int)) (y : Int) : notedIn N y = true ↔ ∃ (t : Nat) (l : List Int), N[t]? = some l ∧ y ∈ l := by
  unfold notedIn
  rw [List.any_eq_true]
  constructor
  · rintro ⟨l, hl, h⟩
    obtain ⟨t, ht, rfl⟩ := List.getElem_of_mem hl
    rw [List.any_eq_true] at h
    obtain ⟨x, hx, he⟩ := h
    have : x = y := by simpa using he
    subst this
    exact ⟨t, _, List.getElem?_eq_getElem ht, hx⟩
  · rintro ⟨t, l, ht, hy⟩
    exact ⟨l, List.mem_of_getElem? ht, by rw [List.any_eq_true]; exact ⟨y, hy, by simp⟩⟩
theorem notedIn_set {N : List (List Int)} {t : Nat} {l : List Int} {x : Int} (ht : N[t]? = some l) (y : Int) : notedIn (N.set t (l ++ [x])) y = (notedIn N y || (x == y)) := by
  have hlt := (List.getElem?_eq_some_iff.1 ht).1
  rw [Bool.eq_iff_iff, Bool.or_eq_true, notedIn_iff, notedIn_iff, beq_iff_eq]
  constructor
  · rintro ⟨s, k, hs, hy⟩
    by_cases hst : t = s
    · subst hst
      rw [List.getElem?_set_self hlt] at hs
      cases hs
      rcases List.mem_append.1 hy with h | h
      · exact .inl ⟨t, l, ht, h⟩
      · exact .inr (by rw [List.mem_singleton] at h; exact h.symm)
    · rw [List.getElem?_set_ne hst] at hs
      exact .inl ⟨s, k, hs, hy⟩
  · rintro (⟨s, k, hs, hy⟩ | rfl)
    · by_cases hst : t = s
      · subst hst
        rw [ht] at hs
        cases hs
        exact ⟨t, _, List.getElem?_set_self hlt, by simp [hy]⟩
      · exact ⟨s, k, by rw [List.getElem?_set_ne hst]; exact hs, hy⟩
    · exact ⟨t, _, List.getElem?_set_self hlt, by simp⟩
theorem notedIn_nil (n : Nat) (y : Int) : notedIn (List.replicate n []) y = false := by
  cases h : notedIn (List.replicate n []) y with
  | false => rfl
  | true =>
    rw [notedIn_iff] at h
    obtain ⟨t, l, ht, hy⟩ := h
    rw [List.getElem?_replicate] at ht
    split at ht
    · cases ht
      cases hy
    · cases ht
theorem trues_nil {L : List Bool} {n : Nat} (h : ∀ j < n, L.getD j false = false) : trues L n = [] := by
  induction n with
  | zero => rfl
  | succ n ih =>
    rw [trues_succ, h n (by omega)]
    simpa using ih fun j hj => h j (by omega)
theorem least_below {L : List Bool} {k : Nat} (h : least L = some k) {j : Nat} (hj : j < k) : L.getD j false = false := by
  unfold least at h
  rw [List.findIdx?_eq_some_iff_getElem] at h
  obtain ⟨h1, _, h3⟩ := h
  have := h3 j hj
  simpa [List.getD, show j < L.length by omega] using this
theorem trues_least {L : List Bool} {k : Nat} (h : least L = some k) {n : Nat} (hn : k < n) : trues L n = (k : Int) :: trues (L.set k false) n := by
  have hk := least_lt h
  have hat := least_at h
  have hset : (L.set k false).getD k false = false := by simp [List.getD, hk]
  have hne : ∀ j, j ≠ k → (L.set k false).getD j false = L.getD j false := fun j hj => by simp [List.getD, List.getElem?_set_ne (Ne.symm hj)]
  induction n with
  | zero => omega
  | succ n ih =>
    rw [trues_succ, trues_succ]
    by_cases hnk : n = k
    · subst hnk
      rw [if_pos hat, if_neg (by rw [hset]; simp), trues_nil fun j hj => least_below h hj, trues_nil fun j hj => by rw [hne j (by omega)]; exact least_below h hj]
      rfl
    · rw [hne n hnk, ih (by omega)]
      split <;> rfl
theorem trues_none {L : List Bool} (h : least L = none) (n : Nat) : trues L n = [] := by
  refine trues_nil fun j _ => ?_
  rw [least_false h]
  simp only [List.getD, List.getElem?_replicate]
  split <;> rfl
theorem trues_false (m n : Nat) : trues (List.replicate m false) n = [] := by
  refine trues_nil fun j _ => ?_
  simp only [List.getD, List.getElem?_replicate]
  split <;> rfl
theorem leftTo_trues {N : List (List Int)} {L : List Bool} {n : Nat} (h : ∀ i : Nat, i < n → L.getD i false = notedIn N i) : leftTo N n = trues L n := by
  induction n with
  | zero => rfl
  | succ n ih =>
    rw [leftTo_succ, trues_succ, ih fun i hi => h i (by omega), h n (by omega)]
theorem Like.len {C : Clk} {R : Ref} (h : Like C R) : R.notes.length = C.owed.length := by rw [h.owed, List.length_map]
theorem repl_false (m i : Nat) : (List.replicate m false).getD i false = false := by
  simp only [List.getD, List.getElem?_replicate]
  split <;> rfl
theorem like_new (n : Nat) (d : Int) : Like (newClk n d) (newRef n d) where
  now := rfl
  dur := rfl
  owed := by show List.replicate n (0 : Int) = (List.replicate n ([] : List Int)).map _; simp
  noted := fun i _ => by
    show (List.replicate 258 false).getD i false = notedIn (List.replicate n []) i
    rw [notedIn_nil]
    exact repl_false _ _
  closing := rfl
  left := fun h => absurd rfl h
  done1 := fun h => by cases h
  done := fun h => by
    have : 2 ≤ 0 := h
    omega
theorem noteNo_like {C : Clk} {R : Ref} (h : Like C R) (t line : Int) : noteRNo R t line = noteNo C t line := by
  unfold noteRNo noteNo
  rw [h.len]
theorem like_note {C : Clk} {R : Ref} (h : Like C R) (hok : C.Ok) (hfew : ∀ l ∈ R.notes, l.length ≤ 1000) (t line : Int) : Like (noteT C t line) (noteRT R t line) := by
  unfold noteT noteRT
  rw [noteNo_like h]
  by_cases h0 : noteNo C t line = 0
  · rw [if_pos h0, if_pos h0]
    unfold noteNo at h0
    have h1 : ¬ (t < 0 ∨ (C.owed.length : Int) ≤ t) := fun h => by rw [if_pos h] at h0; omega
    rw [if_neg h1] at h0
    have h2 : ¬ (line < 0 ∨ 258 ≤ line) := fun h => by rw [if_pos h] at h0; omega
    obtain ⟨a, rfl⟩ := Int.eq_ofNat_of_zero_le (show 0 ≤ t by omega)
    obtain ⟨i, rfl⟩ := Int.eq_ofNat_of_zero_le (show 0 ≤ line by omega)
    have ha : a < R.notes.length := by rw [h.len]; omega
    have hl : R.notes[a]? = some R.notes[a] := List.getElem?_eq_getElem ha
    have hgd : R.notes.getD a [] = R.notes[a] := by simp [List.getD, ha]
    have hlen := hfew _ (List.mem_of_getElem? hl)
    have hod : C.owed.getD a 0 = (R.notes[a].length : Int) := by rw [h.owed]; simp [List.getD, ha]
    simp only [Int.toNat_natCast]
    refine { now := h.now, dur := h.dur, owed := ?_, noted := fun j hj => ?_, closing := h.closing, left := h.left, done1 := h.done1, done := h.done }
    · show C.owed.set a (wrap64 (C.owed.getD a 0 + 1)) = (R.notes.set a (R.notes.getD a [] ++ [(i : Int)])).map _
      rw [List.map_set, ← h.owed, hod, hgd]
      congr 1
      rw [wrap64_eq, IntKind.wrap_i64, List.length_append, List.length_singleton]
      omega
    · show (C.noted.set i true).getD j false = notedIn (R.notes.set a (R.notes.getD a [] ++ [(i : Int)])) j
      rw [hgd, notedIn_set hl, ← h.noted j hj]
      by_cases hij : i = j
      · subst hij
        have hi258 : i < C.noted.length := by rw [hok.noted]; exact hj
        simp [List.getD, hi258]
      · have e : ((i : Int) == (j : Int)) = false := by rw [beq_eq_false_iff_ne]; omega
        rw [e, Bool.or_false]
        simp [List.getD, List.getElem?_set_ne hij]
  · rw [if_neg h0, if_neg h0]
    exact h
theorem noteRT_few {R : Ref} {j : Nat} (h : ∀ l ∈ R.notes, l.length ≤ j) (t line : Int) : ∀ l ∈ (noteRT R t line).notes, l.length ≤ j + 1 := by
  unfold noteRT
  split
  · intro l hl
    have hl' : l ∈ R.notes.set t.toNat (R.notes.getD t.toNat [] ++ [line]) := hl
    rcases List.mem_or_eq_of_mem_set hl' with h1 | h1
    · have := h l h1; omega
    · rw [h1, List.length_append, List.length_singleton]
      by_cases hlt : t.toNat < R.notes.length
      · have := h (R.notes.getD t.toNat []) (by simp only [List.getD, List.getElem?_eq_getElem hlt, Option.getD_some]; exact List.getElem_mem hlt)
        omega
      · simp [List.getD, List.getElem?_eq_none (Nat.le_of_not_lt hlt)]
  · intro l hl
    have := h l hl
    omega
theorem beginNo_like {C : Clk} {R : Ref} (h : Like C R) : beginRNo R = beginNo C := by
  unfold beginRNo beginNo
  rw [h.closing]
  by_cases h0 : C.phase = 0 <;> simp [h0]
theorem like_begin {C : Clk} {R : Ref} (h : Like C R) : Like (beginT C) (beginRT R) := by
  unfold beginT beginRT
  rw [h.closing]
  by_cases h0 : C.phase = 0
  · rw [if_pos h0, if_neg (by simp [h0])]
    exact {
      now := by show R.now + 1 = C.now + 1; rw [h.now]
      dur := h.dur
      owed := by
        show List.replicate C.owed.length (0 : Int) = (List.replicate R.notes.length ([] : List Int)).map _
        rw [h.len]
        simp
      noted := fun i _ => by
        show (List.replicate 258 false).getD i false = notedIn (List.replicate R.notes.length []) i
        rw [notedIn_nil]
        exact repl_false _ _
      closing := rfl
      left := fun _ => leftTo_trues h.noted
      done1 := fun _ => rfl
      done := fun e => by
        have : 2 ≤ 1 := e
        omega }
  · rw [if_neg h0, if_pos (by simp [h0])]
    exact h
theorem beginRT_few {R : Ref} {j : Nat} (h : ∀ l ∈ R.notes, l.length ≤ j) : ∀ l ∈ (beginRT R).notes, l.length ≤ j := by
  unfold beginRT
  split
  · exact h
  · intro l hl
    have hl' : l ∈ List.replicate R.notes.length ([] : List Int) := hl
    rw [(List.mem_replicate.1 hl').2]
    simp
/-- the reference's step, beside the program's -/
theorem ref9_Step (F0 : List Nat) (base rg vg vb cap : Nat) (C : Clk) (R : Ref) (D : Dev) (w : World) (hL : Like C R) (hok : C.Ok) (h : RCAt w (vg :: vb :: F0) base rg R) (hd : RefAt w vg vb cap D) (hb : base ≤ vg ∧ base ≤ vb) (hF : vg ∉ F0 ∧ vb ∉ F0) :
    Calls Try.prog 30 #[.pointer (some ⟨rg, 0, none⟩), .pointer (some ⟨vg, 0, none⟩)] w fun e w' => ∃ R', e = .returned (.tuple #[.int .i64 (stepA C), .int .i64 (stepE C)]) ∧
      RCAt w' (vg :: vb :: F0) base rg R' ∧ Like (stepC C) R' ∧ R'.notes = R.notes ∧ RefAt w' vg vb cap (stepD C D) ∧ OnlyX F0 base w w' := by
  have hp4 := hok.phase
  have hcl := hL.closing
  unfold stepA stepE stepC stepD
  by_cases p0 : C.phase = 0
  · rw [if_pos p0, if_pos p0, if_pos p0, if_pos p0]
    refine (ref9_Step_idle (vg :: vb :: F0) base rg vg R w h (by rw [hcl, p0]; rfl)).mono ?_
    rintro e w' ⟨rfl, rfl⟩
    exact ⟨R, rfl, h, hL, rfl, hd, .refl _ _ _⟩
  rw [if_neg p0, if_neg p0, if_neg p0, if_neg p0]
  have hc : R.closing = true := by rw [hcl]; simpa using p0
  have hbz := hok.busy p0
  have hlo := hok.lo
  have hhi := hok.hi
  have hnow := hL.now
  have hleft := hL.left p0
  by_cases p1 : C.phase = 1
  · rw [if_pos p1, if_pos p1, if_pos p1]
    cases hm : least C.left with
    | some k =>
      have hk : k < 258 := by have := least_lt hm; rw [hok.left] at this; exact this
      rw [trues_least hm hk] at hleft
      refine (ref9_Step_left F0 base rg vg vb cap R k _ D w h hd hc hleft (trues_length _ _) hb hF).mono ?_
      rintro e w' ⟨rfl, h', d', o'⟩
      exact ⟨_, rfl, h', { now := hL.now, dur := hL.dur, owed := hL.owed, noted := hL.noted, closing := hL.closing, left := fun _ => rfl, done1 := hL.done1, done := hL.done }, rfl, d', o'⟩
    | none =>
      rw [trues_none hm] at hleft
      refine (ref9_Step_0 F0 base rg vg vb cap R (R.now - 1).toNat D w h hd hc hleft (by omega) (by omega) (hL.done1 p1) hb hF).mono ?_
      rintro e w' ⟨rfl, h', d', o'⟩
      exact ⟨_, rfl, h', { now := hL.now, dur := hL.dur, owed := hL.owed, noted := hL.noted, closing := hc, left := fun _ => by show R.left = trues C.left 258; rw [hleft, trues_none hm], done1 := fun e => (by have : 2 = 1 := e; omega), done := fun _ => rfl }, rfl, d', o'⟩
  rw [if_neg p1, if_neg p1, if_neg p1]
  have hz := hok.done p1
  rw [hz, trues_false] at hleft
  have hdn := hL.done (by omega)
  have hcz : C.closing = C.now - 1 := by unfold Clk.closing; rw [if_neg p0]
  by_cases p2 : C.phase = 2
  · rw [if_pos p2, if_pos p2, if_pos p2, hcz]
    refine (ref9_Step_1 F0 base rg vg vb cap R (C.now - 1).toNat D w h hd hc hleft (by omega) (by omega) (by rw [hdn, p2]; rfl) hb hF).mono ?_
    rintro e w' ⟨rfl, h', d', o'⟩
    exact ⟨_, rfl, h', { now := hL.now, dur := hL.dur, owed := hL.owed, noted := hL.noted, closing := hc, left := fun _ => by show R.left = trues C.left 258; rw [hleft, hz, trues_false], done1 := fun e => (by have : 3 = 1 := e; omega), done := fun _ => rfl }, rfl, d', o'⟩
  rw [if_neg p2, if_neg p2, if_neg p2]
  by_cases p3 : C.phase = 3
  · rw [if_pos p3, if_pos p3, if_pos p3]
    refine (ref9_Step_2 F0 base rg vg vb cap R (C.now - 1).toNat D w h hd hc hleft (by omega) (by omega) (by rw [hdn, p3]; rfl) hb hF).mono ?_
    rintro e w' ⟨rfl, h', d', o'⟩
    exact ⟨_, rfl, h', { now := hL.now, dur := hL.dur, owed := hL.owed, noted := hL.noted, closing := hc, left := fun _ => by show R.left = trues C.left 258; rw [hleft, hz, trues_false], done1 := fun e => (by have : 4 = 1 := e; omega), done := fun _ => rfl }, rfl, d', o'⟩
  rw [if_neg p3, if_neg p3, if_neg p3]
  have p4 : C.phase = 4 := by omega
  refine (ref9_Step_3 F0 base rg vg vb cap R (C.now - 1).toNat D w h hd hc hleft (by omega) (by omega) (by rw [hdn, p4]; rfl) hb hF).mono ?_
  rintro e w' ⟨rfl, h', d', o'⟩
  exact ⟨_, rfl, h', { now := hL.now, dur := by show R.now - 1 = C.now - 1; rw [hL.now], owed := hL.owed, noted := hL.noted, closing := rfl, left := fun e => absurd rfl e, done1 := fun e => (by have : 0 = 1 := e; omega), done := fun e => (by have : 2 ≤ 0 := e; omega) }, rfl, d', o'⟩
end Go.Proofs.Ytecdalmnndalgaa
/- Law 3: are acts more than is gone through; a device behind some acts. -/
set_option maxRecDepth 100000
namespace Go.Proofs.Ytecdalmnndalgaa
open Go.RowKit Go.Proofs.FuMem Go.Proofs.FuNvm Go.Proofs.FuCode
abbrev Big (x : Deed × Holds) : Prop := 100 < x.2.bn ∨ 100 < x.2.kn
def isLarge (xs : List (Deed × Holds)) : Bool := decide (80 < xs.length ∨ ∃ x ∈ xs, Big x)
theorem large_no {xs : List (Deed × Holds)} (h : isLarge xs = false) : xs.length ≤ 80 ∧ ∀ x ∈ xs, x.2.bn ≤ 100 ∧ x.2.kn ≤ 100 := by
  unfold isLarge at h
  rw [decide_eq_false_iff_not] at h
  refine ⟨by omega, fun x hx => ?_⟩
  have : ¬ Big x := fun hb => h (.inr ⟨x, hx, hb⟩)
  unfold Big at this
  omega
def playAll (D : Dev) (xs : List (Deed × Holds)) : Dev := xs.foldl (fun D x => playD D x.1) D
theorem playAll_take {D : Dev} {xs : List (Deed × Holds)} {k : Nat} {x : Deed × Holds} (h : xs[k]? = some x) : playAll D (xs.take (k + 1)) = playD (playAll D (xs.take k)) x.1 := by
  unfold playAll
  rw [List.take_add_one, h]
  simp
end Go.Proofs.Ytecdalmnndalgaa
/- The walk of the statement NvmFences. -/
set_option maxRecDepth 100000
namespace Go.Proofs.Ytecdalmnndalgaa
open Go.RowKit Go.Proofs.FuMem Go.Proofs.FuNvm Go.Proofs.FuCode
theorem playD_length (D : Dev) (x : Deed) : (playD D x).lines.length = D.lines.length := by
  unfold playD store1 flush1 back1 storeD flushD backD fenceD cutD
  split
  · split <;> simp
  · split
    · split <;> simp
    · split
      · simp
      · split
        · split <;> simp
        · split <;> simp
theorem playAll_length (D : Dev) (xs : List (Deed × Holds)) : (playAll D xs).lines.length = D.lines.length := by
  unfold playAll
  induction xs generalizing D with
  | nil => rfl
  | cons x xs ih => rw [List.foldl_cons, ih, playD_length]
theorem playAll_8 (xs : List (Deed × Holds)) : (playAll (newDev 8) xs).lines.length = 8 := by rw [playAll_length]; exact List.length_replicate
theorem set_here {L : List Line} {k : Nat} {x : Line} (h : L[k]? = some x) (y : Line) : (L.set k y)[k]? = some y := by
  obtain ⟨hk, _⟩ := List.getElem?_eq_some_iff.1 h
  rw [List.getElem?_set_self hk]
theorem set_else {L : List Line} {k j : Nat} (h : k ≠ j) (y : Line) : (L.set k y)[j]? = L[j]? := List.getElem?_set_ne h
theorem madeB_bs {w w' : World} {l : List UInt8} {v : Value} (h : MadeB w l v w') : ∃ A c, v = .slice A l.length c ∧ Bs w' A l.length l ∧ (∀ b off s, A = some ⟨b, off, s⟩ → w.heap.size ≤ b) ∧ Only [] w w' := by
  obtain ⟨A, c, rfl, h, o⟩ := h
  refine ⟨A, c, rfl, bs_own h, ?_, o⟩
  intro b off s e
  rcases Nat.eq_zero_or_pos l.length with hz | hp
  · rcases h.2 with ⟨e1, _⟩ | ⟨g, c2, cur, hv, hbg, _⟩
    · injection e1 with e1 _ _
      rw [e1] at e
      cases e
    · injection hv with e1 _ _
      rw [e1] at e
      cases e
      exact hbg
  · obtain ⟨g, rfl, hbg, _, _⟩ := OwnB.of h hp
    cases e
    exact hbg
end Go.Proofs.Ytecdalmnndalgaa
/- The walk of the statement NvmKeeps. -/
set_option maxRecDepth 100000
namespace Go.Proofs.Ytecdalmnndalgaa
open Go.RowKit Go.Proofs.FuMem Go.Proofs.FuNvm Go.Proofs.FuCode
/-- line k has these bytes, in both copies, and nothing else is on its way -/
def Stays (k : Nat) (l : List UInt8) (D : Dev) : Prop := ∃ x, D.lines[k]? = some x ∧ x.now = l ∧ x.kept = l ∧ (x.sent = true → x.way = l)
theorem stays_set {k : Nat} {l : List UInt8} {D : Dev} {i : Int} {y : Line} {L : List Line} (h : Stays k l D) (_hi : 0 ≤ i ∧ i.toNat < D.lines.length) (hL : L = D.lines.set i.toNat y)
    (hy : i.toNat = k → y.now = l ∧ y.kept = l ∧ (y.sent = true → y.way = l)) : ∃ x, L[k]? = some x ∧ x.now = l ∧ x.kept = l ∧ (x.sent = true → x.way = l) := by
  obtain ⟨x, hx, h1⟩ := h
  subst hL
  by_cases he : i.toNat = k
  · subst he
    exact ⟨y, set_here hx y, hy rfl⟩
  · exact ⟨x, (set_else he _).trans hx, h1⟩
theorem stays_line {k : Nat} {l : List UInt8} {D : Dev} {i : Int} (h : Stays k l D) (he : i.toNat = k) : (lineOf D i).now = l ∧ (lineOf D i).kept = l ∧ ((lineOf D i).sent = true → (lineOf D i).way = l) := by
  obtain ⟨x, hx, h1⟩ := h
  have : lineOf D i = x := by unfold lineOf; rw [he, List.getD, hx]; rfl
  rw [this]
  exact h1
theorem stays_play {k : Nat} {l : List UInt8} {D : Dev} {x : Deed} (h : Stays k l D) (hx : ¬ (x.kind = 0 ∧ x.line = (k : Int))) : Stays k l (playD D x) := by
  unfold playD
  split
  · unfold store1
    split
    · exact h
    · rename_i h0 hp
      unfold noPlace at hp
      exact stays_set h (by omega) rfl (fun he => absurd ⟨h0, by omega⟩ hx)
  split
  · unfold flush1
    split
    · exact h
    · rename_i hp
      unfold noPlace at hp
      refine stays_set h (by omega) rfl (fun he => ?_)
      obtain ⟨h1, h2, h3⟩ := stays_line h he
      exact ⟨h1, h2, fun _ => h1⟩
  split
  · obtain ⟨x, hx, h1, h2, h3⟩ := h
    refine ⟨fenceL x, by unfold fenceD; rw [List.getElem?_map, hx]; rfl, ?_⟩
    unfold fenceL
    split
    · rename_i hs
      exact ⟨h1, h3 hs, fun h => by cases h⟩
    · exact ⟨h1, h2, h3⟩
  split
  · unfold back1
    split
    · exact h
    · rename_i hp
      unfold noPlace at hp
      refine stays_set h (by omega) rfl (fun he => ?_)
      obtain ⟨h1, h2, h3⟩ := stays_line h he
      exact ⟨h1, h1, fun h => by cases h⟩
  split
  · obtain ⟨y, hy, h1, h2, h3⟩ := h
    refine ⟨cutL x.keep k y, by unfold cutD; rw [List.getElem?_mapIdx, hy]; rfl, ?_⟩
    unfold cutL
    split
    · exact ⟨h1, h1, fun h => by cases h⟩
    · exact ⟨h2, h2, fun h => by cases h⟩
  · exact h
end Go.Proofs.Ytecdalmnndalgaa
/- The walk of the statement NvmSorted. -/
set_option maxRecDepth 100000
namespace Go.Proofs.Ytecdalmnndalgaa
open Go.RowKit Go.Proofs.FuMem Go.Proofs.FuNvm Go.Proofs.FuCode
theorem those_prefix (p : Line → Bool) (L : List Line) {i j : Nat} (h : i ≤ j) : those p L i <+: those p L j := by
  unfold those
  obtain ⟨d, rfl⟩ := Nat.exists_eq_add_of_le h
  rw [List.range_add, List.filter_append, List.map_append]
  exact List.prefix_append _ _
theorem those_at (p : Line → Bool) (L : List Line) {i : Nat} {x : Line} (hx : L[i]? = some x) (hp : p x = true) (hi : i < L.length) : (those p L L.length)[(those p L i).length]? = some (i : Int) := by
  have h1 := those_prefix p L (Nat.succ_le_of_lt hi)
  obtain ⟨_, rfl⟩ := List.getElem?_eq_some_iff.1 hx
  rw [those_succ p L i hi, if_pos hp] at h1
  obtain ⟨t, ht⟩ := h1
  rw [← ht, List.append_assoc, List.getElem?_append_right (Nat.le_refl _), Nat.sub_self]
  rfl
theorem those_bd (p : Line → Bool) (L : List Line) (m : Nat) {v : Int} (h : v ∈ those p L m) : 0 ≤ v ∧ v < m := by
  unfold those at h
  obtain ⟨j, hj, rfl⟩ := List.mem_map.1 h
  have := List.mem_range.1 (List.mem_filter.1 hj).1
  omega
theorem those_rise (p : Line → Bool) (L : List Line) (m : Nat) : (those p L m).Pairwise (· < ·) := by
  unfold those
  rw [List.pairwise_map]
  refine List.Pairwise.imp (fun h => ?_) (List.Pairwise.filter _ List.pairwise_lt_range)
  omega
theorem those_few (p : Line → Bool) (L : List Line) (m : Nat) : (those p L m).length ≤ m := by
  unfold those
  rw [List.length_map]
  exact Nat.le_trans (List.length_filter_le _ _) (by rw [List.length_range]; exact Nat.le_refl _)
theorem madeI_is {w w' : World} {l : List Int} {v : Value} (h : MadeI w l v w') : ∃ A c, v = .slice A l.length c ∧ Is w' A l.length l ∧ Only [] w w' := by
  obtain ⟨A, c, rfl, h, o⟩ := h
  exact ⟨A, c, rfl, is_own h, o⟩
end Go.Proofs.Ytecdalmnndalgaa
/- Of no device each call says so. -/
set_option maxRecDepth 100000
namespace Go.Proofs.Ytecdalmnndalgaa
open Go.RowKit Go.Proofs.FuMem Go.Proofs.FuNvm Go.Proofs.FuCode
theorem none_there (a b c : Int) (w : World) : Calls Try.prog 41 #[.pointer none, .int .i64 a, .int .i64 b, .int .i64 c] w fun e w' => e = .returned (.int .i64 1) ∧ w = w' := by
  go_enter Try.func41, Try.ntmps41
  go_wp2
  go_ret
  exact ⟨rfl, rfl⟩
theorem none_Load (i : Int) (w : World) : Calls Try.prog 21 #[.pointer none, .int .i64 i] w fun e w' => e = .returned (.tuple #[.slice none 0 0, .int .i64 1]) ∧ w = w' := by
  go_enter Try.func21, Try.ntmps21
  go_wp2_with fail
  refine (none_there _ _ _ _).mono ?_
  rintro e w' ⟨rfl, rfl⟩
  go_wp2
  go_ret2
  exact ⟨rfl, rfl⟩
theorem none_Durable (i : Int) (w : World) : Calls Try.prog 22 #[.pointer none, .int .i64 i] w fun e w' => e = .returned (.tuple #[.slice none 0 0, .int .i64 1]) ∧ w = w' := by
  go_enter Try.func22, Try.ntmps22
  go_wp2_with fail
  refine (none_there _ _ _ _).mono ?_
  rintro e w' ⟨rfl, rfl⟩
  go_wp2
  go_ret2
  exact ⟨rfl, rfl⟩
theorem none_Store (i a : Int) (A : Option Addr) (n c : Nat) (w : World) : Calls Try.prog 20 #[.pointer none, .int .i64 i, .int .i64 a, .slice A n c] w fun e w' => e = .returned (.int .i64 1) ∧ w = w' := by
  go_enter Try.func20, Try.ntmps20
  go_wp2_with fail
  refine (none_there _ _ _ _).mono ?_
  rintro e w' ⟨rfl, rfl⟩
  go_wp2
  go_ret
  exact ⟨rfl, rfl⟩
theorem none_Flush (i : Int) (w : World) : Calls Try.prog 63 #[.pointer none, .int .i64 i] w fun e w' => e = .returned (.int .i64 1) ∧ w = w' := by
  go_enter Try.func63, Try.ntmps63
  go_wp2_with fail
  refine (none_there _ _ _ _).mono ?_
  rintro e w' ⟨rfl, rfl⟩
  go_wp2
  go_ret
  exact ⟨rfl, rfl⟩
theorem none_Back (i : Int) (w : World) : Calls Try.prog 32 #[.pointer none, .int .i64 i] w fun e w' => e = .returned (.int .i64 1) ∧ w = w' := by
  go_enter Try.func32, Try.ntmps32
  go_wp2_with fail
  refine (none_there _ _ _ _).mono ?_
  rintro e w' ⟨rfl, rfl⟩
  go_wp2
  go_ret
  exact ⟨rfl, rfl⟩
theorem none_Fence (w : World) : Calls Try.prog 64 #[.pointer none] w fun e w' => e = .returned (.int .i64 1) ∧ w = w' := by
  go_enter Try.func64, Try.ntmps64
  go_wp2
  go_ret
  exact ⟨rfl, rfl⟩
theorem none_Lines (w : World) : Calls Try.prog 78 #[.pointer none] w fun e w' => e = .returned (.int .i64 0) ∧ w = w' := by
  go_enter Try.func78, Try.ntmps78
  go_wp2
  go_ret
  exact ⟨rfl, rfl⟩
theorem none_lines (f : Value) (w : World) : Calls Try.prog 72 #[.pointer none, f] w fun e w' => e = .returned (.slice none 0 0) ∧ w = w' := by
  go_enter Try.func72, Try.ntmps72
  go_wp2_with fail
  refine (none_Lines _).mono ?_
  rintro e w' ⟨rfl, rfl⟩
  go_wp2
  go_loopw [5, 6, 9] (fun v _ i wr => v = .slice none 0 0 ∧ i = .int .i64 0 ∧ w = wr) (fun _ _ _ _ => 0)
  case atStart => exact ⟨rfl, rfl, rfl⟩
  case round =>
    obtain ⟨rfl, rfl, rfl⟩ := hrel
    go_wp2
    go_ret
    exact ⟨rfl, rfl⟩
theorem none_Loose (w : World) : Calls Try.prog 59 #[.pointer none] w fun e w' => e = .returned (.slice none 0 0) ∧ w = w' := by
  go_enter Try.func59, Try.ntmps59
  go_wp2_with fail
  refine (none_lines _ _).mono ?_
  rintro e w' ⟨rfl, rfl⟩
  go_wp2
  go_ret
  exact ⟨rfl, rfl⟩
end Go.Proofs.Ytecdalmnndalgaa
/- Counts, and the copy of a device. -/
set_option maxRecDepth 100000
namespace Go.Proofs.Ytecdalmnndalgaa
open Go.RowKit Go.Proofs.FuMem Go.Proofs.FuNvm Go.Proofs.FuCode
theorem drawn_only {w wd : World} (h : ({ w with drawn := w.drawn + 1 } : World) = wd) : Only [] w wd := by subst h; exact (Only.refl _ _).drew
abbrev countsV (D : Dev) : Value := .agg #[.int .i64 D.stores, .int .i64 D.flushes, .int .i64 D.fences, .int .i64 D.backs, .int .i64 D.cuts]
theorem countsZero : (Try.prog.info? 108).map (·.zero) = some (some (.agg #[.int .i64 0, .int .i64 0, .int .i64 0, .int .i64 0, .int .i64 0])) := by kernel_rfl
end Go.Proofs.Ytecdalmnndalgaa
/- The walk of the statement NvmCopies. -/
set_option maxRecDepth 100000
namespace Go.Proofs.Ytecdalmnndalgaa
open Go.RowKit Go.Proofs.FuMem Go.Proofs.FuNvm Go.Proofs.FuCode
/-- do two devices' counts agree? -/
def sameCounts (D E : Dev) : Bool := D.stores == E.stores && (D.flushes == E.flushes && (D.fences == E.fences && (D.backs == E.backs && D.cuts == E.cuts)))
theorem sameCounts_refl (D : Dev) : sameCounts D D = true := by simp [sameCounts]
theorem eqFields_cons {P : Program} (d : Nat) (xs ys : Array Value) (f : Field) (fs : List Field) (a b : Value) (r : Bool) (w : World) (hn : f.name ≠ "_") (ha : (part f.type xs f.offset).run P w = .ok a w) (hb : (part f.type ys f.offset).run P w = .ok b w)
    (hr : (Op.equalIn d f.type a b).run P w = .ok r w) (s : Bool) (hs : (Op.eqFields d xs ys fs).run P w = .ok s w) : (Op.eqFields d xs ys (f :: fs)).run P w = .ok (r && s) w := by
  unfold Op.eqFields
  rw [if_pos hn]
  simp only [Sem.run_bind, ha, hb, hr, Result.andThen_ok]
  cases r
  · simp
  · simp [hs]
theorem eqFields_nil {P : Program} (d : Nat) (xs ys : Array Value) (w : World) : (Op.eqFields d xs ys []).run P w = .ok true w := by simp [Op.eqFields]
theorem counts_equal (D E : Dev) (w : World) : (Op.equalIn 10000 108 (countsV D) (countsV E)).run Try.prog w = .ok (sameCounts D E) w := by
  rw [run_equalIn_struct w 9999 108 _ _ (by kernel_rfl) (by kernel_rfl)]
  have hf : (Try.prog.fieldsOf 108).toList.map (fun f => (f.type, f.offset, decide (f.name = "_"))) = [(3, 0, false), (3, 1, false), (3, 2, false), (3, 3, false), (3, 4, false)] := by kernel_rfl
  generalize (Try.prog.fieldsOf 108).toList = fs at *
  obtain ⟨f0, f1, f2, f3, f4, rfl⟩ : ∃ f0 f1 f2 f3 f4, fs = [f0, f1, f2, f3, f4] := by
    have hl := congrArg List.length hf
    rw [List.length_map] at hl
    rcases fs with _ | ⟨f0, _ | ⟨f1, _ | ⟨f2, _ | ⟨f3, _ | ⟨f4, _ | ⟨f5, fs⟩⟩⟩⟩⟩⟩
    · simp at hl
    · simp at hl
    · simp at hl
    · simp at hl
    · simp at hl
    · exact ⟨_, _, _, _, _, rfl⟩
    · simp at hl
  · simp only [List.map_cons, List.map_nil, List.cons.injEq, Prod.mk.injEq, decide_eq_false_iff_not, and_true] at hf
    obtain ⟨⟨t0, o0, n0⟩, ⟨t1, o1, n1⟩, ⟨t2, o2, n2⟩, ⟨t3, o3, n3⟩, ⟨t4, o4, n4⟩⟩ := hf
    have hp : ∀ (xs : Array Value) (k : Nat) (v : Value), xs[k]? = some v → (part 3 xs k).run Try.prog w = .ok v w := fun xs k v h => by
      simp [part, isAgg, run_underlying Try.underlying3, h]
    have hq : ∀ a b : Int, (Op.equalIn 9999 3 (.int .i64 a) (.int .i64 b)).run Try.prog w = .ok (a == b) w := fun a b => run_equalIn_int (P := Try.prog) w 9998 3 .i64 .i64 a b Try.underlying3
    have key := eqFields_cons (P := Try.prog) 9999 #[.int .i64 D.stores, .int .i64 D.flushes, .int .i64 D.fences, .int .i64 D.backs, .int .i64 D.cuts] #[.int .i64 E.stores, .int .i64 E.flushes, .int .i64 E.fences, .int .i64 E.backs, .int .i64 E.cuts]
    have := key f0 _ _ _ _ w n0 (by rw [t0, o0]; exact hp _ 0 _ rfl) (by rw [t0, o0]; exact hp _ 0 _ rfl) (by rw [t0]; exact hq _ _) _
      (key f1 _ _ _ _ w n1 (by rw [t1, o1]; exact hp _ 1 _ rfl) (by rw [t1, o1]; exact hp _ 1 _ rfl) (by rw [t1]; exact hq _ _) _
      (key f2 _ _ _ _ w n2 (by rw [t2, o2]; exact hp _ 2 _ rfl) (by rw [t2, o2]; exact hp _ 2 _ rfl) (by rw [t2]; exact hq _ _) _
      (key f3 _ _ _ _ w n3 (by rw [t3, o3]; exact hp _ 3 _ rfl) (by rw [t3, o3]; exact hp _ 3 _ rfl) (by rw [t3]; exact hq _ _) _
      (key f4 _ _ _ _ w n4 (by rw [t4, o4]; exact hp _ 4 _ rfl) (by rw [t4, o4]; exact hp _ 4 _ rfl) (by rw [t4]; exact hq _ _) _ (eqFields_nil _ _ _ w)))))
    rw [this]
    simp [sameCounts]
theorem neq_counts (D E : Dev) (w : World) : (binOp .neq 108 (countsV D) (countsV E)).run Try.prog w = .ok (.bool (!sameCounts D E)) w := by
  unfold countsV
  rw [run_neq_struct]
  have := counts_equal D E w
  unfold countsV at this
  rw [this]
  rfl
theorem eql_counts (D E : Dev) (w : World) : (binOp .eql 108 (countsV D) (countsV E)).run Try.prog w = .ok (.bool (sameCounts D E)) w := by
  unfold countsV
  rw [run_eql_struct]
  have := counts_equal D E w
  unfold countsV at this
  rw [this]
  rfl
theorem countsGuard : Try.prog.eqGuardType Try.prog.depth 108 = false := by kernel_rfl
end Go.Proofs.Ytecdalmnndalgaa
/- The contracts of the reference of chapter 3, fourth part: the cut; a new device. -/
namespace Go.Proofs.Ytecdalmnndalgaa
open Go.RowKit Go.Proofs.FuMem Go.Proofs.FuNvm Go.Proofs.FuCode
set_option maxRecDepth 100000
theorem cut_round (D : Dev) (hok : AllOk D.lines) (keep : List Int) (k : Nat) (hkl : k < D.lines.length) : ∃ (x : Line) (U : List Line), upTo (cutL keep) D.lines k = U ∧ U.length = D.lines.length ∧ U[k]? = some x ∧ x.Ok ∧ U.set k (cutL keep k x) = upTo (cutL keep) D.lines (k + 1) ∧ U.set k x = U ∧
    lostTo keep D.lines (k + 1) = if isLost keep k x = true then lostTo keep D.lines k ++ [(k : Int)] else lostTo keep D.lines k := by
  have h := upTo_get (cutL keep) D.lines k hkl
  have hq := (List.getElem?_eq_some_iff.1 h).2
  refine ⟨_, _, rfl, upTo_length _ _ _, h, hok.get hkl, upTo_succ (cutL keep) D.lines k hkl, ?_, lostTo_succ keep D.lines k hkl⟩
  conv => lhs; arg 3; rw [← hq]
  exact List.set_getElem_self _
theorem lineZero3 : ∃ i z, Try.prog.info? 114 = some i ∧ i.zero = some z ∧ i.size = 193 ∧ z.cells = (cellsOf noLine).toArray ∧ i.bytes = 193 := ⟨_, _, rfl, rfl, rfl, rfl, rfl⟩
set_option maxHeartbeats 1000000 in
theorem ref3_New (n : Nat) (w : World) (h1 : 1 ≤ n) (h2 : n ≤ 258) :
    Calls Try.prog 27 #[.int .i64 n] w fun e w' => ∃ g cb, e = .returned (.tuple #[.pointer (some ⟨g, 0, none⟩), .int .i64 0]) ∧ RefAt w' g cb n (newDev n) ∧ Only [] w w' ∧ w.heap.size ≤ g ∧ w.heap.size ≤ cb := by
  obtain ⟨ci, cz, hi, hz, hs, hc, hby⟩ := lineZero3
  obtain ⟨w1, hr, hb, ho, hg⟩ := make_lines (P := Try.prog) (w := w) 106 114 ci cz Try.underlying106 hi hz hs hc n (by rw [hby]; omega) (by omega)
  have HB := Lib.hid hb
  have HON := Lib.hid ho
  have HG := Lib.hid hg
  clear hb ho hg hi hz hc
  have hh1 : decide ((n : Int) < 1) = false := by go_num
  have hh2 : decide ((258 : Int) < (n : Int)) = false := by go_num
  go_enter Try.func27, Try.ntmps27
  go_wp2
  go_ret2
  have hal : Only [] w1 (w1.alloc (.cells (headOf w.heap.size n (newDev n)) 110)) := (Only.refl _ _).alloc _
  have hln : (newDev n).lines.length = n := List.length_replicate
  have hhd := Blk.new w1 110 (headOf w.heap.size n (newDev n))
  have hg2 := HG.out
  have he : headOf w.heap.size n (newDev n) = #[.slice (some ⟨w.heap.size, 0, none⟩) n n, .int .i64 0, .int .i64 0, .int .i64 0, .int .i64 0, .int .i64 0] := by
    unfold headOf
    rw [hln]
    rfl
  rw [he] at hal
  refine ⟨w1.heap.size, w.heap.size, rfl, ⟨?_, ⟨_, HB.out.only hal (by simp), ?_⟩, by omega, allOk_new n, by omega, by omega⟩, HON.out.trans0 hal, by omega, Nat.le_refl _⟩
  · rw [he] at hhd ⊢
    exact hhd
  · rw [hln]
    unfold newDev
    have := flat_length (allOk_new n)
    rw [List.length_replicate] at this
    exact List.take_of_length_le (by simp [this])
theorem ref3_New_no (n : Int) (w : World) (h : n < 1 ∨ 258 < n) :
    Calls Try.prog 27 #[.int .i64 n] w fun e w' => e = .returned (.tuple #[.pointer none, .int .i64 2]) ∧ w' = w := by
  by_cases h1 : n < 1
  · have hh1 : decide (n < 1) = true := by simpa using h1
    clear h
    go_enter Try.func27, Try.ntmps27
    go_wp2
    go_ret2
    exact ⟨rfl, rfl⟩
  · have h2 : 258 < n := by omega
    have hh1 : decide (n < 1) = false := by simpa using h1
    have hh2 : decide (258 < n) = true := by simpa using h2
    clear h
    go_enter Try.func27, Try.ntmps27
    go_wp2
    go_ret2
    exact ⟨rfl, rfl⟩
end Go.Proofs.Ytecdalmnndalgaa
/- Lists of numbers that are lent, and looked at again. -/
set_option maxRecDepth 100000
namespace Go.Proofs.Ytecdalmnndalgaa
open Go.RowKit Go.Proofs.FuMem
def I (x : Int) : Value := .int .i64 x
/-- a lent slice: its block holds the numbers and three marks -/
def LentI (w : World) (g : Nat) (l : List Int) : Prop := Blk w g 3 ((l.map (Value.int .i64)) ++ List.replicate 3 (I (-777))).toArray
def lentITo (l : List Int) (j : Nat) : Array Value := ((l.map (Value.int .i64)) ++ List.replicate j (I (-777)) ++ List.replicate (3 - j) (I 0)).toArray
theorem lentITo_size (l : List Int) (j : Nat) (hj : j ≤ 3) : (lentITo l j).size = l.length + 3 := by simp [lentITo]; omega
theorem lentITo_set (l : List Int) (j : Nat) (hj : j < 3) : (lentITo l j).setIfInBounds (l.length + j) (I (-777)) = lentITo l (j + 1) := by
  apply Array.ext'
  simp only [lentITo, Array.toList_setIfInBounds]
  apply List.ext_getElem
  · simp; omega
  · intro i h1 h2
    simp only [List.getElem_set, List.getElem_append, List.getElem_map, List.getElem_replicate, List.length_map, List.length_append, List.length_replicate]
    repeat' split
    all_goals first | rfl | omega
theorem lentI_start (l : List Int) (n : Nat) : ((Array.replicate (n + 3) (Value.int .i64 0)).toList.take 0 ++ l.map (Value.int .i64) ++ (Array.replicate (n + 3) (Value.int .i64 0)).toList.drop (0 + n)).toArray = lentITo l 0 := by
  simp [lentITo, I]
theorem LentI.is {w : World} {g n : Nat} {l : List Int} (h : LentI w g l) (hl : l.length = n) : Is w (some ⟨g, 0, none⟩) n l := Sl.of_blk h 0 (by simp [← hl]) (by simp [← hl])
end Go.Proofs.Ytecdalmnndalgaa
/- Law 3: an act, of both devices. -/
set_option maxRecDepth 100000
namespace Go.Proofs.Ytecdalmnndalgaa
open Go.RowKit Go.Proofs.FuMem Go.Proofs.FuNvm Go.Proofs.FuCode
/-- an act's fields, in a block of their own -/
def BoxAt (w : World) (g : Nat) (x : Deed) (s : Holds) : Prop := w.cell? ⟨g, 1, none⟩ = some (.int .i64 x.line) ∧ w.cell? ⟨g, 2, none⟩ = some (.int .i64 x.pos) ∧ w.cell? ⟨g, 3, none⟩ = some (.slice s.bA s.bn s.bc) ∧ w.cell? ⟨g, 4, none⟩ = some (.slice s.kA s.kn s.kc)
theorem is_only_pos' {w w' : World} {S : List Nat} {A : Option Addr} {n : Nat} {l : List UInt8} (h : Bs w A n l) (ho : Only S w w') (hs : 0 < n → ∀ b off s, A = some ⟨b, off, s⟩ → b ∉ S) : Bs w' A n l := by
  rcases Nat.eq_zero_or_pos n with rfl | hp
  · have := h.len
    obtain rfl : l = [] := List.length_eq_zero_iff.1 this
    exact Bs.nil _ _
  · exact h.only ho (hs hp)
/-- what was answered is written over: its block alone, and what is new -/
theorem law0_OverInts2 (S : List Nat) (base : Nat) (A : Option Addr) (n c : Nat) (l : List Int) (w : World) (h : w.ownsRow base 3 1 (.slice A n c) n (l.map (.int .i64))) (hbase : base ≤ w.heap.size) (hS : ∀ k, (Value.slice A n c).ownBlock = some k → k ∈ S) (hn : n ≤ 1000000) :
    Calls Try.prog 56 #[.slice A n c] w fun e w' => e = .returned (.tuple #[]) ∧ Only S w w' := by
  obtain ⟨i0, hi, hz0, hz1, hz2⟩ := info_parts Try.intInfo
  have HI := Lib.hid hi
  have HZ0 := Lib.hid hz0
  have HZ1 := Lib.hid hz1
  have HZ2 := Lib.hid hz2
  have HO := Lib.hid h
  have HS := Lib.hid hS
  clear hi hz0 hz1 hz2 h hS
  go_enter Try.func56, Try.ntmps56
  go_wp2
  go_loopw [2] (fun i wr => ∃ (j : Nat) (l' : List Int), j ≤ n ∧ i = .int .i64 j ∧ wr.ownsRow base 3 1 (.slice A n c) n (l'.map (.int .i64)) ∧ Only S w wr) (fun i _ => n - (intOf i).toNat)
  case atStart => exact ⟨0, l, Nat.zero_le _, rfl, HO.out, Only.refl _ _⟩
  case round =>
    obtain ⟨j, l', hj, rfl, ho, on⟩ := hrel
    by_cases hlt : j < n
    · obtain ⟨g, rfl, hbg, hgg, ho⟩ := OwnI.of ho (by omega)
      have hcell := ho.cell j hlt
      have hfr := ho.frozen j
      have hst := ho.set j (-999)
      have on2 := on.setCell (p := ⟨g, j, none⟩) (.inl (HS.out g rfl)) (.int .i64 (-999))
      have H1 := Lib.hid hst
      have H2 := Lib.hid on2
      clear ho on hst on2
      generalize l'.set j (-999) = l2 at *
      generalize l'.getD j 0 = x at *
      go_wp2
      go_roundw
      case rel => exact ⟨j + 1, l2, by omega, by go_num, H1.out, H2.out⟩
      case measure => simp [intOf]; omega
    · obtain rfl : j = n := by omega
      obtain ⟨v', w', hr, ho2, hg2, _⟩ := run_append_sl (P := Try.prog) (wr.alloc (.cells #[.int .i64 (-998)] 3)) base 42 42 3 i0 _ 8 Try.underlying42 HI.out HZ0.out HZ1.out HZ2.out rfl _ j _ (ho.alloc _) (some ⟨wr.heap.size, 0, none⟩) 1 1 [.int .i64 (-998)] (cell_new1 _ _ _) (ints_new1 _ _) (by unfold maxLen; omega) (by omega) (by have := on.size; simp; omega)
      have on2 : Only S w w' := (on.alloc _).trans (Only.of_grown hg2 (S := S) (fun k hk => .inl (HS.out k hk))) (fun b hb => .inl hb)
      have H2 := Lib.hid on2
      clear ho on ho2 hg2 on2
      go_wp2_with (at_builtin; refine wpList_append_run _ rfl (.tmp 12) (.tmp 13) 42 rfl _ _ rfl rfl _ _ hr ?_)
      go_end0
      exact ⟨rfl, H2.out⟩
end Go.Proofs.Ytecdalmnndalgaa
