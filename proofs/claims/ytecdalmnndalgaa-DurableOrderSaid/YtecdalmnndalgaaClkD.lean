/- Step: what a clock does of a closing. -/
import Derived.Test.YtecdalmnndalgaaClkC
import Derived.Test.YtecdalmnndalgaaPlay
import Derived.Test.YtecdalmnndalgaaLaw4
import Derived.Deep.RegionHeld3
namespace Go.Proofs.Ytecdalmnndalgaa
open Go.RowKit Go.Proofs.FuMem Go.Proofs.FuClk Go.Proofs.FuNvm Go.Proofs.FuGeom
set_option maxRecDepth 100000
def least (L : List Bool) : Option Nat := L.findIdx? id
theorem least_some {L : List Bool} {k : Nat} (hk : L.getD k false = true) (h : ∀ j < k, L.getD j false = false) : least L = some k := by
  unfold least
  rw [List.findIdx?_eq_some_iff_getElem]
  have hlt : k < L.length := by
    refine Nat.lt_of_not_le fun hge => ?_
    simp [List.getD, List.getElem?_eq_none hge] at hk
  refine ⟨hlt, by simpa [List.getD, hlt] using hk, fun j hj => ?_⟩
  have := h j hj
  simpa [List.getD, show j < L.length by omega] using this
theorem least_none {L : List Bool} (h : ∀ j < L.length, L.getD j false = false) : least L = none := by
  unfold least
  rw [List.findIdx?_eq_none_iff]
  intro x hx
  obtain ⟨j, hj, rfl⟩ := List.getElem_of_mem hx
  have := h j hj
  simpa [List.getD, hj] using this
theorem least_lt {L : List Bool} {k : Nat} (h : least L = some k) : k < L.length := by
  unfold least at h
  rw [List.findIdx?_eq_some_iff_getElem] at h
  exact h.1
theorem least_at {L : List Bool} {k : Nat} (h : least L = some k) : L.getD k false = true := by
  unfold least at h
  rw [List.findIdx?_eq_some_iff_getElem] at h
  obtain ⟨h1, h2, _⟩ := h
  simpa [List.getD, h1] using h2
theorem least_false {L : List Bool} (h : least L = none) : L = List.replicate L.length false := by
  unfold least at h
  rw [List.findIdx?_eq_none_iff] at h
  exact List.eq_replicate_iff.2 ⟨rfl, fun x hx => by simpa using h x hx⟩
def stepC (C : Clk) : Clk := if C.phase = 0 then C else if C.phase = 1 then (match least C.left with | some i => { C with left := C.left.set i false } | none => { C with phase := 2 }) else if C.phase = 2 then { C with phase := 3 } else if C.phase = 3 then { C with phase := 4 } else { C with phase := 0, durable := C.now - 1 }
def stepD (C : Clk) (D : Dev) : Dev := if C.phase = 0 then D else if C.phase = 1 then (match least C.left with | some i => flush1 D i | none => fenceD D) else if C.phase = 2 then store1 D 1 0 (clockL C.closing.toNat) else if C.phase = 3 then flush1 D 1 else fenceD D
def stepA (C : Clk) : Int := if C.phase = 0 then 0 else if C.phase = 1 then (match least C.left with | some _ => 1 | none => 2) else if C.phase = 2 then 3 else if C.phase = 3 then 1 else 2
def stepE (C : Clk) : Int := if C.phase = 0 then 12 else 0
theorem stepC_ok {C : Clk} (h : C.Ok) : (stepC C).Ok := by
  unfold stepC
  by_cases h0 : C.phase = 0
  · rw [if_pos h0]; exact h
  rw [if_neg h0]
  have hb := h.busy h0
  have hl := h.lo
  by_cases h1 : C.phase = 1
  · rw [if_pos h1]
    cases hm : least C.left with
    | some i => exact { noted := h.noted, left := by show (C.left.set i false).length = 258; rw [List.length_set]; exact h.left, owed1 := h.owed1, owed4 := h.owed4, phase := h.phase, lo := h.lo, hi := h.hi, idle := h.idle, busy := h.busy, done := fun e => absurd h1 e }
    | none =>
      have := least_false hm
      rw [h.left] at this
      exact { noted := h.noted, left := h.left, owed1 := h.owed1, owed4 := h.owed4, phase := by show 2 ≤ 4; omega, lo := h.lo, hi := h.hi, idle := fun e => (by cases e), busy := fun _ => hb, done := fun _ => this }
  rw [if_neg h1]
  have hd := h.done h1
  by_cases h2 : C.phase = 2
  · rw [if_pos h2]
    exact { noted := h.noted, left := h.left, owed1 := h.owed1, owed4 := h.owed4, phase := by show 3 ≤ 4; omega, lo := h.lo, hi := h.hi, idle := fun e => (by cases e), busy := fun _ => hb, done := fun _ => hd }
  rw [if_neg h2]
  by_cases h3 : C.phase = 3
  · rw [if_pos h3]
    exact { noted := h.noted, left := h.left, owed1 := h.owed1, owed4 := h.owed4, phase := by show 4 ≤ 4; omega, lo := h.lo, hi := h.hi, idle := fun e => (by cases e), busy := fun _ => hb, done := fun _ => hd }
  rw [if_neg h3]
  exact { noted := h.noted, left := h.left, owed1 := h.owed1, owed4 := h.owed4, phase := by show 0 ≤ 4; omega, lo := by show 0 ≤ C.now - 1; omega, hi := h.hi, idle := fun _ => by show C.now = C.now - 1 + 1; omega, busy := fun e => absurd rfl e, done := fun _ => hd }
theorem leftCell {w : World} {g ob : Nat} {C : Clk} (h : ClkAt w g ob C) {i : Nat} (hi : i < 258) : w.cell? ⟨g, 262 + i, none⟩ = some (.bool (C.left.getD i false)) := by
  rw [h.head.cell]
  have := restOf_at2 (v := stepV 40 65 75 79 g C.phase) h.ok.noted h.ok.left hi
  rw [List.getElem?_eq_getElem (l := C.left) (by rw [h.ok.left]; exact hi)] at this
  rw [show 262 + i = (258 + i) + 1 + 1 + 1 + 1 by omega]
  have e : C.left.getD i false = C.left[i]'(by rw [h.ok.left]; exact hi) := by simp [List.getD, h.ok.left, hi]
  rw [e]
  simpa [FuClk.cellsOf] using this
theorem clk_setStep {w : World} {g ob : Nat} {C C' : Clk} (h : ClkAt w g ob C) (ok : C'.Ok) (e0 : C'.closing = C.closing) (e1 : C'.now = C.now) (e2 : C'.durable = C.durable) (e3 : C'.owed = C.owed) (e4 : C'.noted = C.noted) (e5 : C'.left = C.left) :
    ClkAt (w.setCell ⟨g, 520, none⟩ (stepV 40 65 75 79 g C'.phase)) g ob C' ∧ Only [g] w (w.setCell ⟨g, 520, none⟩ (stepV 40 65 75 79 g C'.phase)) := by
  have ho : Only [g] w (w.setCell ⟨g, 520, none⟩ (stepV 40 65 75 79 g C'.phase)) := (Only.refl _ _).setCell (.inl (by simp)) _
  have hb := h.head.set 520 (stepV 40 65 75 79 g C'.phase)
  rw [cellsOf_raw, raw_step h.ok.noted h.ok.left] at hb
  refine ⟨h.put ?_ ho e3 ok, ho⟩
  rw [cellsOf_raw, e0, e1, e2, e3, e4, e5]
  exact hb
theorem clk_setLeft {w : World} {g ob : Nat} {C : Clk} (h : ClkAt w g ob C) {i : Nat} (hi : i < 258) (ok : Clk.Ok { C with left := C.left.set i false }) :
    ClkAt (w.setCell ⟨g, 262 + i, none⟩ (.bool false)) g ob { C with left := C.left.set i false } ∧ Only [g] w (w.setCell ⟨g, 262 + i, none⟩ (.bool false)) := by
  have ho : Only [g] w (w.setCell ⟨g, 262 + i, none⟩ (.bool false)) := (Only.refl _ _).setCell (.inl (by simp)) _
  have hb := h.head.set (262 + i) (.bool false)
  rw [cellsOf_raw, raw_left h.ok.noted h.ok.left hi] at hb
  exact ⟨h.put hb ho rfl ok, ho⟩
set_option maxHeartbeats 1000000 in
theorem clk_flush (g ob dg dcb cap : Nat) (C : Clk) (D : Dev) (w : World) (h : ClkAt w g ob C) (hd : DevAt w dg dcb cap D) (h1 : C.phase = 1) (hsep : g ≠ dg ∧ g ≠ dcb ∧ ob ≠ dg ∧ ob ≠ dcb) :
    Calls Try.prog 40 #[.pointer (some ⟨g, 0, none⟩), .pointer (some ⟨dg, 0, none⟩)] w fun e w' => e = .returned (.int .i64 (stepA C)) ∧ ClkAt w' g ob (stepC C) ∧ DevAt w' dg dcb cap (stepD C D) ∧ Only [g, dg, dcb] w w' := by
  have hl := h.leftSl
  have hL := h.ok.left
  have hok := stepC_ok h.ok
  have HSEP := Lib.hid hsep
  have HC := Lib.hid h
  have HD := Lib.hid hd
  have HP := Lib.hid h1
  have eA : stepA C = (match least C.left with | some _ => 1 | none => 2) := by unfold stepA; rw [if_neg (by omega), if_pos h1]
  have eC : stepC C = (match least C.left with | some i => { C with left := C.left.set i false } | none => { C with phase := 2 }) := by unfold stepC; rw [if_neg (by omega), if_pos h1]
  have eD : stepD C D = (match least C.left with | some i => flush1 D i | none => fenceD D) := by unfold stepD; rw [if_neg (by omega), if_pos h1]
  rw [eC] at hok
  have EA := Lib.hid eA
  have EC := Lib.hid eC
  have ED := Lib.hid eD
  have HOK := Lib.hid hok
  rw [← hL] at hl
  have hsz : (Try.prog.info? 76).map (·.size) = some C.left.length := by rw [hL]; kernel_rfl
  have HS := Lib.hid hsz
  have HLL := Lib.hid hL
  have hmf : ∀ (fn : Fn) (first cap : Array Value) (w : World), (Instr.makeFunc fn first cap).run Try.prog w = .ok (.func fn first cap) w := fun _ _ _ _ => rfl
  clear h hd h1 hsz hL eA eC eD hok hsep
  go_enter Try.func40, Try.ntmps40
  go_wp2_with ((with_reducible show wpList _ _ _ (Oper.mk (some 10) _ _ _ _ _ :: _) _ _); refine wpList_load_bools rfl 76 (.tmp 9) rfl g 262 rfl C.left hl 258 4 Try.underlying76 HS.out ?_)
  clear hl
  generalize hAG : (bools C.left).toArray = AG at *
  have HAG := Lib.hid hAG
  clear hAG
  go_loopw [5, 6, 11] (fun _ _ i wr => ∃ (k : Nat), k ≤ 258 ∧ i = .int .i64 k ∧ (∀ j < k, C.left.getD j false = false) ∧ wr = w) (fun _ _ i _ => 258 - (intOf i).toNat)
  case atStart => exact ⟨0, Nat.zero_le _, rfl, fun j hj => by omega, rfl⟩
  case round =>
    obtain ⟨k, hk, rfl, hall, rfl⟩ := hrel
    have HALL := Lib.hid hall
    clear hall
    by_cases hlt : k < 258
    · have hix : ∀ w, (Instr.index 76 (.agg AG) (.int .i64 k)).run Try.prog w = .ok (.bool (C.left.getD k false)) w := fun w => by
        rw [← HAG.out]
        exact run_index_bool C.left k _ HLL.out (by rw [List.getElem?_eq_getElem (by rw [HLL.out]; exact hlt)]; simp [List.getD, HLL.out, hlt]) w
      have y1 : decide ((k : Int) < 258) = true := by rw [decide_eq_true_eq]; omega
      by_cases hp : C.left.getD k false = true
      · have hm := least_some hp HALL.out
        have hok := HOK.out
        rw [hm] at hok
        simp only at hok
        have HM := Lib.hid hm
        have hcell := leftCell HC.out hlt
        have hfz := HC.out.fr1 (262 + k)
        have hset := clk_setLeft HC.out hlt hok
        have HSET := Lib.hid hset
        have hs := HSEP.out
        have HFL := Lib.hid (nvm_Flush_any dg dcb cap D k _ (HD.out.only hset.2 (by simp; omega) (by simp; omega)))
        rw [hp] at hix hcell
        clear hset hok hm hp hs
        go_wp2_with fail
        refine HFL.out.mono ?_
        rintro e w2 ⟨rfl, d2, o2⟩
        have HC2 := Lib.hid (HSET.out.1.only o2 (by have := HSEP.out; simp; omega) (by have := HSEP.out; simp; omega))
        have HD2 := Lib.hid d2
        have HO2 := Lib.hid ((HSET.out.2.mono (T := [g, dg, dcb]) (by simp)).trans o2 (by intro b hb; simp at hb ⊢; omega))
        clear d2 o2
        go_wp2
        go_ret
        rw [EA.out, EC.out, ED.out, HM.out]
        exact ⟨rfl, HC2.out, HD2.out, HO2.out⟩
      · have hp0 : C.left.getD k false = false := by simpa using hp
        have HALL2 : Hid (∀ j < k + 1, C.left.getD j false = false) := Lib.hid fun j hj => by
          by_cases hjk : j = k
          · rw [hjk]; exact hp0
          · exact HALL.out j (by omega)
        rw [hp0] at hix
        clear hp hp0
        go_wp2
        go_roundw
        case rel => exact ⟨k + 1, by omega, by go_num, HALL2.out, trivial⟩
        case measure => simp [intOf]; omega
    · obtain rfl : k = 258 := by omega
      have hm := least_none (L := C.left) (by rw [HLL.out]; exact HALL.out)
      have hok := HOK.out
      rw [hm] at hok
      simp only at hok
      have HM := Lib.hid hm
      have HFE := Lib.hid (nvm_Fence dg dcb cap D _ HD.out)
      have HOK2 := Lib.hid hok
      clear hm hok
      go_wp2_with fail
      refine HFE.out.mono ?_
      rintro e w2 ⟨rfl, d2, o2⟩
      have hs := HSEP.out
      have hc2 := HC.out.only o2 (by simp; omega) (by simp; omega)
      have c520 := hc2.step
      have f520 := hc2.fr1 520
      have hset := clk_setStep (C' := { C with phase := 2 }) hc2 HOK2.out (by unfold Clk.closing; rw [if_neg (show ¬ (2 : Nat) = 0 by omega), if_neg (by rw [HP.out]; omega)]) rfl rfl rfl rfl rfl
      have HSET := Lib.hid hset
      have HD2 := Lib.hid (d2.only hset.2 (by simp; omega) (by simp; omega))
      have HO2 := Lib.hid (o2.mono (T := [g, dg, dcb]) (by intro b hb; simp at hb ⊢; omega) |>.trans hset.2 (by simp))
      have hst := store_one Try.prog (v := .func (.func 65) #[.pointer (some ⟨g, 0, none⟩)] #[]) rfl c520 f520
      clear hset d2 o2 hc2 hs
      generalize stepV 40 65 75 79 g C.phase = sv at *
      go_wp2
      go_ret
      rw [EA.out, EC.out, ED.out, HM.out]
      exact ⟨rfl, HSET.out.1, HD2.out, HO2.out⟩
set_option maxHeartbeats 1000000 in
theorem clk_store (g ob dg dcb cap : Nat) (C : Clk) (D : Dev) (w : World) (h : ClkAt w g ob C) (hd : DevAt w dg dcb cap D) (h1 : C.phase = 2) (hsep : g ≠ dg ∧ g ≠ dcb ∧ ob ≠ dg ∧ ob ≠ dcb) :
    Calls Try.prog 65 #[.pointer (some ⟨g, 0, none⟩), .pointer (some ⟨dg, 0, none⟩)] w fun e w' => e = .returned (.int .i64 3) ∧ ClkAt w' g ob { C with phase := 3 } ∧ DevAt w' dg dcb cap (store1 D 1 0 (clockL C.closing.toNat)) ∧ Only [g, dg, dcb] w w' := by
  have hok := stepC_ok h.ok
  unfold stepC at hok
  rw [if_neg (by omega), if_neg (by omega), if_pos h1] at hok
  have hcl : C.closing = C.now - 1 := by unfold Clk.closing; rw [if_neg (by omega)]
  have hb := h.ok.busy (by omega)
  have hlo := h.ok.lo
  have hhi := h.ok.hi
  have hC' : ∃ v : Nat, C.closing = (v : Int) ∧ v < 18446744073709551616 := ⟨C.closing.toNat, by omega, by omega⟩
  obtain ⟨v, hv, hv2⟩ := hC'
  have hload := uint64_Load g 2 C.closing w h.clo
  rw [hv] at hload
  have HV := Lib.hid hv
  have HLO := Lib.hid hload
  have HSEP := Lib.hid hsep
  have HC := Lib.hid h
  have HD := Lib.hid hd
  have HP := Lib.hid h1
  have HOK := Lib.hid hok
  have HCK := Lib.hid (fun w => geom_Clock v w hv2)
  have hmf : ∀ (fn : Fn) (first cap : Array Value) (w : World), (Instr.makeFunc fn first cap).run Try.prog w = .ok (.func fn first cap) w := fun _ _ _ _ => rfl
  clear h hd h1 hok hcl hb hlo hhi hv hv2 hload hsep
  go_enter Try.func65, Try.ntmps65
  go_wp2_with fail
  refine (HLO.out).mono ?_
  rintro e w' ⟨rfl, rfl⟩
  go_wp2_with fail
  refine (HCK.out w).mono ?_
  rintro e w1 ⟨r, rfl, ar, hr, o1⟩
  have HST := Lib.hid (nvm_Store_any dg dcb cap D 1 0 (some ⟨r, 0, none⟩) 64 64 (clockL v) w1 (HD.out.only0 o1) (arr64 ar (clockL_length v)) (by unfold maxLen; omega))
  have O1 := Lib.hid o1
  have HC1 := Lib.hid (HC.out.only0 o1)
  clear ar o1 hr
  go_wp2_with fail
  refine HST.out.mono ?_
  rintro e w2 ⟨rfl, d2, o2⟩
  have hs := HSEP.out
  have hc2 := HC1.out.only o2 (by simp; omega) (by simp; omega)
  have c520 := hc2.step
  have f520 := hc2.fr1 520
  have hset := clk_setStep (C' := { C with phase := 3 }) hc2 HOK.out (by unfold Clk.closing; rw [if_neg (show ¬ (3 : Nat) = 0 by omega), if_neg (by rw [HP.out]; omega)]) rfl rfl rfl rfl rfl
  have HSET := Lib.hid hset
  have HD2 := Lib.hid (d2.only hset.2 (by simp; omega) (by simp; omega))
  have HO2 := Lib.hid (((O1.out.mono (T := [g, dg, dcb]) (by simp)).trans o2 (by intro b hb; simp at hb ⊢; omega)).trans hset.2 (by simp))
  have hst := store_one Try.prog (v := .func (.func 75) #[.pointer (some ⟨g, 0, none⟩)] #[]) rfl c520 f520
  clear hset d2 o2 hc2 hs
  generalize stepV 40 65 75 79 g C.phase = sv at *
  go_wp2
  go_ret
  rw [HV.out, Int.toNat_natCast]
  exact ⟨rfl, HSET.out.1, HD2.out, HO2.out⟩
set_option maxHeartbeats 1000000 in
theorem clk_send (g ob dg dcb cap : Nat) (C : Clk) (D : Dev) (w : World) (h : ClkAt w g ob C) (hd : DevAt w dg dcb cap D) (h1 : C.phase = 3) (hsep : g ≠ dg ∧ g ≠ dcb ∧ ob ≠ dg ∧ ob ≠ dcb) :
    Calls Try.prog 75 #[.pointer (some ⟨g, 0, none⟩), .pointer (some ⟨dg, 0, none⟩)] w fun e w' => e = .returned (.int .i64 1) ∧ ClkAt w' g ob { C with phase := 4 } ∧ DevAt w' dg dcb cap (flush1 D 1) ∧ Only [g, dg, dcb] w w' := by
  have hok := stepC_ok h.ok
  unfold stepC at hok
  rw [if_neg (by omega), if_neg (by omega), if_neg (by omega), if_pos h1] at hok
  have HSEP := Lib.hid hsep
  have HC := Lib.hid h
  have HP := Lib.hid h1
  have HOK := Lib.hid hok
  have HFL := Lib.hid (nvm_Flush_any dg dcb cap D 1 w hd)
  have hmf : ∀ (fn : Fn) (first cap : Array Value) (w : World), (Instr.makeFunc fn first cap).run Try.prog w = .ok (.func fn first cap) w := fun _ _ _ _ => rfl
  clear h hd h1 hok hsep
  go_enter Try.func75, Try.ntmps75
  go_wp2_with fail
  refine HFL.out.mono ?_
  rintro e w2 ⟨rfl, d2, o2⟩
  have hs := HSEP.out
  have hc2 := HC.out.only o2 (by simp; omega) (by simp; omega)
  have c520 := hc2.step
  have f520 := hc2.fr1 520
  have hset := clk_setStep (C' := { C with phase := 4 }) hc2 HOK.out (by unfold Clk.closing; rw [if_neg (show ¬ (4 : Nat) = 0 by omega), if_neg (by rw [HP.out]; omega)]) rfl rfl rfl rfl rfl
  have HSET := Lib.hid hset
  have HD2 := Lib.hid (d2.only hset.2 (by simp; omega) (by simp; omega))
  have HO2 := Lib.hid ((o2.mono (T := [g, dg, dcb]) (by intro b hb; simp at hb ⊢; omega)).trans hset.2 (by simp))
  have hst := store_one Try.prog (v := .func (.func 79) #[.pointer (some ⟨g, 0, none⟩)] #[]) rfl c520 f520
  clear hset d2 o2 hc2 hs
  generalize stepV 40 65 75 79 g C.phase = sv at *
  go_wp2
  go_ret
  exact ⟨rfl, HSET.out.1, HD2.out, HO2.out⟩
set_option maxHeartbeats 1000000 in
theorem clk_end (g ob dg dcb cap : Nat) (C : Clk) (D : Dev) (w : World) (h : ClkAt w g ob C) (hd : DevAt w dg dcb cap D) (h1 : C.phase = 4) (hsep : g ≠ dg ∧ g ≠ dcb ∧ ob ≠ dg ∧ ob ≠ dcb) :
    Calls Try.prog 79 #[.pointer (some ⟨g, 0, none⟩), .pointer (some ⟨dg, 0, none⟩)] w fun e w' => e = .returned (.int .i64 2) ∧ ClkAt w' g ob { C with phase := 0, durable := C.now - 1 } ∧ DevAt w' dg dcb cap (fenceD D) ∧ Only [g, dg, dcb] w w' := by
  have hok := stepC_ok h.ok
  unfold stepC at hok
  rw [if_neg (by omega), if_neg (by omega), if_neg (by omega), if_neg (by omega)] at hok
  have hcl : C.closing = C.now - 1 := by unfold Clk.closing; rw [if_neg (by omega)]
  have HCL := Lib.hid hcl
  have HSEP := Lib.hid hsep
  have HC := Lib.hid h
  have HP := Lib.hid h1
  have HOK := Lib.hid hok
  have HFE := Lib.hid (nvm_Fence dg dcb cap D w hd)
  clear h hd h1 hok hsep hcl
  go_enter Try.func79, Try.ntmps79
  go_wp2_with fail
  refine HFE.out.mono ?_
  rintro e w2 ⟨rfl, d2, o2⟩
  have hs := HSEP.out
  have hc2 := HC.out.only o2 (by simp; omega) (by simp; omega)
  have od : Only [] w2 w2.drew := (Only.refl _ _).drew
  have hcd := hc2.only0 od
  have hld := uint64_Load g 2 C.closing w2.drew hcd.clo
  have hsd := uint64_Store g 1 (.int .u64 C.durable) C.closing w2.drew hcd.dur (hcd.fr1 1)
  have hb3 := hcd.head.set 1 (.int .u64 C.closing)
  have ho3 : Only [g] w2.drew (w2.drew.setCell ⟨g, 1, none⟩ (.int .u64 C.closing)) := (Only.refl _ _).setCell (.inl (by simp)) _
  have hr3 := hcd.row.only ho3 (by simpa using hcd.ne.symm)
  rw [cellsOf_raw, raw_set1] at hb3
  have ew : w2.drew.setCell ⟨g, 1, none⟩ (.int .u64 C.closing) = (w2.setCell ⟨g, 1, none⟩ (.int .u64 C.closing)).drew := rfl
  rw [ew] at hsd hb3 ho3 hr3
  have HLD := Lib.hid hld
  have HSD := Lib.hid hsd
  have HB3 := Lib.hid hb3
  have HR3 := Lib.hid hr3
  have HD3 := Lib.hid ((d2.only0 od).only ho3 (by simp; omega) (by simp; omega))
  have HO3 := Lib.hid (((o2.mono (T := [g, dg, dcb]) (by intro b hb; simp at hb ⊢; omega)).trans0 od).trans ho3 (by simp))
  have c2 := hc2.clo
  clear o2 d2 hc2 od hld hsd hb3 ho3 hr3 hcd hs
  go_wp2
  go_region_held3 (fun w' => w'.cell? ⟨g, 2, none⟩ = some (.int .u64 C.closing)) (go_keep) (first
    | (go_at_call 37; refine HSD.out.mono ?_; rintro e w' ⟨rfl, rfl⟩; have c2 : (w2.setCell ⟨g, 1, none⟩ (.int .u64 C.closing)).drew.cell? ⟨g, 2, none⟩ = some (.int .u64 C.closing) := (HB3.out.cell 2).trans rfl)
    | (go_at_call 38; refine HLD.out.mono ?_; rintro e w' ⟨rfl, rfl⟩))
  clear HLD HSD ew c2 HFE
  generalize (w2.setCell ⟨g, 1, none⟩ (.int .u64 C.closing)).drew = w3 at *
  have hb3 := HB3.out
  have h4 := uint64_Store g 2 (.int .u64 C.closing) 0 w3 ((hb3.cell 2).trans rfl) (hb3.frozen 2)
  have hb4 := hb3.set 2 (.int .u64 0)
  have ho4 : Only [g] w3 (w3.setCell ⟨g, 2, none⟩ (.int .u64 0)) := (Only.refl _ _).setCell (.inl (by simp)) _
  have hr4 := HR3.out.only ho4 (by simpa using HC.out.ne.symm)
  rw [raw_set2] at hb4
  generalize w3.setCell ⟨g, 2, none⟩ (.int .u64 0) = w4 at *
  have H4 := Lib.hid h4
  have c520 : w4.cell? ⟨g, 520, none⟩ = some (stepV 40 65 75 79 g C.phase) := (hb4.cell 520).trans (raw_at520 HC.out.ok.noted HC.out.ok.left)
  have f520 := hb4.frozen 520
  have hb5 := hb4.set 520 .nilFunc
  have ho5 : Only [g] w4 (w4.setCell ⟨g, 520, none⟩ .nilFunc) := (Only.refl _ _).setCell (.inl (by simp)) _
  have hr5 := hr4.only ho5 (by simpa using HC.out.ne.symm)
  rw [raw_step HC.out.ok.noted HC.out.ok.left] at hb5
  have HF : Hid (ClkAt (w4.setCell ⟨g, 520, none⟩ .nilFunc) g ob { C with phase := 0, durable := C.now - 1 }) := Lib.hid (by
    refine ⟨?_, hr5, HC.out.ne, HOK.out⟩
    rw [cellsOf_raw]
    rw [HCL.out] at hb5
    exact hb5)
  have hs := HSEP.out
  have HD5 := Lib.hid ((HD3.out.only ho4 (by simp; omega) (by simp; omega)).only ho5 (by simp; omega) (by simp; omega))
  have HO5 := Lib.hid ((HO3.out.trans ho4 (by simp)).trans ho5 (by simp))
  have hst := store_one Try.prog (v := .nilFunc) rfl c520 f520
  clear h4 hb3 hb4 hb5 ho4 ho5 hr4 hr5 hs
  generalize stepV 40 65 75 79 g C.phase = sv at *
  go_wp2_with fail
  refine H4.out.mono ?_
  rintro e w' ⟨rfl, rfl⟩
  go_wp2
  go_ret
  exact ⟨rfl, HF.out, HD5.out, HO5.out⟩
theorem clk_Step (g ob dg dcb cap : Nat) (C : Clk) (D : Dev) (w : World) (h : ClkAt w g ob C) (hd : DevAt w dg dcb cap D) (hsep : g ≠ dg ∧ g ≠ dcb ∧ ob ≠ dg ∧ ob ≠ dcb) :
    Calls Try.prog 15 #[.pointer (some ⟨g, 0, none⟩), .pointer (some ⟨dg, 0, none⟩)] w fun e w' => e = .returned (.tuple #[.int .i64 (stepA C), .int .i64 (stepE C)]) ∧ ClkAt w' g ob (stepC C) ∧ DevAt w' dg dcb cap (stepD C D) ∧ Only [g, dg, dcb] w w' := by
  have hload := uint64_Load g 2 C.closing w h.clo
  have hp := h.ok.phase
  by_cases h0 : C.phase = 0
  · have hc : C.closing = 0 := (closing_zero h.ok).2 h0
    rw [hc] at hload
    have HL := Lib.hid hload
    have eA : stepA C = 0 := by unfold stepA; rw [if_pos h0]
    have eE : stepE C = 12 := by unfold stepE; rw [if_pos h0]
    have eC : stepC C = C := by unfold stepC; rw [if_pos h0]
    have eD : stepD C D = D := by unfold stepD; rw [if_pos h0]
    rw [eA, eE, eC, eD]
    have H := Lib.hid h
    have HD := Lib.hid hd
    clear hload h hd hc h0 eA eE eC eD hsep hp
    go_enter Try.func15, Try.ntmps15
    go_wp2_with fail
    refine (HL.out).mono ?_
    rintro e w' ⟨rfl, rfl⟩
    go_wp2
    go_ret2
    exact ⟨rfl, H.out, HD.out, Only.refl _ _⟩
  have hc : ¬ C.closing = 0 := fun e => h0 ((closing_zero h.ok).1 e)
  have hcb : (C.closing == 0) = false := by rw [beq_eq_false_iff_ne]; exact hc
  have c520 := h.step
  have HL := Lib.hid hload
  have eE : stepE C = 0 := by unfold stepE; rw [if_neg h0]
  rw [eE]
  have hcases : C.phase = 1 ∨ C.phase = 2 ∨ C.phase = 3 ∨ C.phase = 4 := by omega
  rcases hcases with h1 | h1 | h1 | h1
  · have HF := Lib.hid (clk_flush g ob dg dcb cap C D w h hd h1 hsep)
    rw [h1] at c520
    have c520' : w.cell? ⟨g, 520, none⟩ = some (.func (.func 40) #[.pointer (some ⟨g, 0, none⟩)] #[]) := c520
    generalize stepA C = sa at *
    generalize stepC C = sc at *
    generalize stepD C D = sd at *
    generalize C.closing = x at *
    clear h hd h1 hsep h0 hp eE hload c520
    go_enter Try.func15, Try.ntmps15
    go_wp2_with fail
    refine (HL.out).mono ?_
    rintro e w' ⟨rfl, rfl⟩
    go_wp2_with fail
    refine HF.out.mono ?_
    rintro e w2 ⟨rfl, c2, d2, o2⟩
    have C2 := Lib.hid c2
    have D2 := Lib.hid d2
    have O2 := Lib.hid o2
    clear c2 d2 o2
    go_wp2
    go_ret2
    exact ⟨rfl, C2.out, D2.out, O2.out⟩
  · have HF := Lib.hid (clk_store g ob dg dcb cap C D w h hd h1 hsep)
    rw [h1] at c520
    have c520' : w.cell? ⟨g, 520, none⟩ = some (.func (.func 65) #[.pointer (some ⟨g, 0, none⟩)] #[]) := c520
    have eA : stepA C = 3 := by unfold stepA; rw [if_neg (by omega), if_neg (by omega), if_pos h1]
    have EC := Lib.hid (show stepC C = ({ C with phase := 3 } : Clk) by unfold stepC; rw [if_neg (by omega), if_neg (by omega), if_pos h1])
    have ED := Lib.hid (show stepD C D = store1 D 1 0 (clockL C.closing.toNat) by unfold stepD; rw [if_neg (by omega), if_neg (by omega), if_pos h1])
    rw [eA]
    generalize stepC C = sc at *
    generalize stepD C D = sd at *
    generalize ({ C with phase := 3 } : Clk) = sc2 at *
    generalize store1 D 1 0 (clockL C.closing.toNat) = sd2 at *
    generalize C.closing = x at *
    clear h hd h1 hsep h0 hp eE hload c520 eA
    go_enter Try.func15, Try.ntmps15
    go_wp2_with fail
    refine (HL.out).mono ?_
    rintro e w' ⟨rfl, rfl⟩
    go_wp2_with fail
    refine HF.out.mono ?_
    rintro e w2 ⟨rfl, c2, d2, o2⟩
    have C2 := Lib.hid c2
    have D2 := Lib.hid d2
    have O2 := Lib.hid o2
    clear c2 d2 o2
    go_wp2
    go_ret2
    rw [EC.out, ED.out]
    exact ⟨rfl, C2.out, D2.out, O2.out⟩
  · have HF := Lib.hid (clk_send g ob dg dcb cap C D w h hd h1 hsep)
    rw [h1] at c520
    have c520' : w.cell? ⟨g, 520, none⟩ = some (.func (.func 75) #[.pointer (some ⟨g, 0, none⟩)] #[]) := c520
    have eA : stepA C = 1 := by unfold stepA; rw [if_neg (by omega), if_neg (by omega), if_neg (by omega), if_pos h1]
    have EC := Lib.hid (show stepC C = ({ C with phase := 4 } : Clk) by unfold stepC; rw [if_neg (by omega), if_neg (by omega), if_neg (by omega), if_pos h1])
    have ED := Lib.hid (show stepD C D = flush1 D 1 by unfold stepD; rw [if_neg (by omega), if_neg (by omega), if_neg (by omega), if_pos h1])
    rw [eA]
    generalize stepC C = sc at *
    generalize stepD C D = sd at *
    generalize ({ C with phase := 4 } : Clk) = sc2 at *
    generalize flush1 D 1 = sd2 at *
    generalize C.closing = x at *
    clear h hd h1 hsep h0 hp eE hload c520 eA
    go_enter Try.func15, Try.ntmps15
    go_wp2_with fail
    refine (HL.out).mono ?_
    rintro e w' ⟨rfl, rfl⟩
    go_wp2_with fail
    refine HF.out.mono ?_
    rintro e w2 ⟨rfl, c2, d2, o2⟩
    have C2 := Lib.hid c2
    have D2 := Lib.hid d2
    have O2 := Lib.hid o2
    clear c2 d2 o2
    go_wp2
    go_ret2
    rw [EC.out, ED.out]
    exact ⟨rfl, C2.out, D2.out, O2.out⟩
  · have HF := Lib.hid (clk_end g ob dg dcb cap C D w h hd h1 hsep)
    rw [h1] at c520
    have c520' : w.cell? ⟨g, 520, none⟩ = some (.func (.func 79) #[.pointer (some ⟨g, 0, none⟩)] #[]) := c520
    have eA : stepA C = 2 := by unfold stepA; rw [if_neg (by omega), if_neg (by omega), if_neg (by omega), if_neg (by omega)]
    have EC := Lib.hid (show stepC C = ({ C with phase := 0, durable := C.now - 1 } : Clk) by unfold stepC; rw [if_neg (by omega), if_neg (by omega), if_neg (by omega), if_neg (by omega)])
    have ED := Lib.hid (show stepD C D = fenceD D by unfold stepD; rw [if_neg (by omega), if_neg (by omega), if_neg (by omega), if_neg (by omega)])
    rw [eA]
    generalize stepC C = sc at *
    generalize stepD C D = sd at *
    generalize ({ C with phase := 0, durable := C.now - 1 } : Clk) = sc2 at *
    generalize fenceD D = sd2 at *
    generalize C.closing = x at *
    clear h hd h1 hsep h0 hp eE hload c520 eA
    go_enter Try.func15, Try.ntmps15
    go_wp2_with fail
    refine (HL.out).mono ?_
    rintro e w' ⟨rfl, rfl⟩
    go_wp2_with fail
    refine HF.out.mono ?_
    rintro e w2 ⟨rfl, c2, d2, o2⟩
    have C2 := Lib.hid c2
    have D2 := Lib.hid d2
    have O2 := Lib.hid o2
    clear c2 d2 o2
    go_wp2
    go_ret2
    rw [EC.out, ED.out]
    exact ⟨rfl, C2.out, D2.out, O2.out⟩
end Go.Proofs.Ytecdalmnndalgaa
