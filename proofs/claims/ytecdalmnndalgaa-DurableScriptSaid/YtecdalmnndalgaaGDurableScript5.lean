/- The walk of the statement NvmCuts. -/
import Derived.Deep.RegionHeld3
import Derived.Test.YtecdalmnndalgaaGDurableScript1
import Derived.Test.YtecdalmnndalgaaGDurableScript2
import Derived.Test.YtecdalmnndalgaaGDurableScript3
import Derived.Test.YtecdalmnndalgaaGDurableScript4
set_option maxRecDepth 100000
namespace Go.Proofs.Ytecdalmnndalgaa
open Go.RowKit Go.Proofs.FuMem Go.Proofs.FuNvm Go.Proofs.FuCode
theorem Try.bytesInfo : (Try.prog.info? 48).map (fun i => (i.zero, i.size, i.bytes)) = some (some (.slice none 0 0), 1, 24) := by kernel_rfl
/-- slices of bytes of the call's own, in blocks from m on -/
def Rows (w : World) (m : Nat) (vs : List Value) (ls : List (List UInt8)) : Prop :=
  vs.length = ls.length ∧ ∀ (j : Nat) (v : Value) (l : List UInt8), vs[j]? = some v → ls[j]? = some l → w.ownsRow m 5 1 v l.length (l.map B)
theorem Rows.only {w w' : World} {m : Nat} {vs : List Value} {ls : List (List UInt8)} {S : List Nat} (h : Rows w m vs ls) (o : Only S w w') (hs : ∀ b ∈ S, b < m) : Rows w' m vs ls :=
  ⟨h.1, fun j v l h1 h2 => own_only (h.2 j v l h1 h2) o (fun k hk hm => by have := World.ownsRow.lt (h.2 j v l h1 h2) k hk; have := hs k hm; omega)⟩
theorem own_grown {w w' : World} {base : Nat} {e : TypeId} {size : Nat} {v : Value} {n : Nat} {xs : List Value} {row : Option Nat} (h : w.ownsRow base e size v n xs) (ho : w.grownBy w' row) (hs : ∀ k, v.ownBlock = some k → row ≠ some k) : w'.ownsRow base e size v n xs := by
  refine ⟨h.1, ?_⟩
  rcases h.2 with h0 | ⟨g, cap, cur, rfl, hbg, hg, hnc, hcm, hcs, htake⟩
  · exact .inl h0
  · exact .inr ⟨g, cap, cur, rfl, hbg, (ho.block g (Array.getElem?_eq_some_iff.1 hg).1 (fun e => hs g rfl e.symm)).trans hg, hnc, hcm, hcs, htake⟩
theorem own_types {w : World} {b1 b2 : Nat} {e1 e2 : TypeId} {s1 s2 : Nat} {v u : Value} {n m : Nat} {xs ys : List Value} (h : w.ownsRow b1 e1 s1 v n xs) (k : w.ownsRow b2 e2 s2 u m ys) (hne : e1 ≠ e2) : ∀ g, v.ownBlock = some g → u.ownBlock ≠ some g := by
  intro g hv hu
  rcases h.2 with ⟨rfl, _⟩ | ⟨g1, _, cur1, rfl, _, hg1, _⟩
  · simp [Value.ownBlock] at hv
  · rcases k.2 with ⟨rfl, _⟩ | ⟨g2, _, cur2, rfl, _, hg2, _⟩
    · simp [Value.ownBlock] at hu
    · have a1 : g1 = g := by simpa [Value.ownBlock] using hv
      have a2 : g2 = g := by simpa [Value.ownBlock] using hu
      subst a1
      subst a2
      rw [hg1] at hg2
      injection hg2 with hg2
      injection hg2 with _ ht
      exact hne ht
theorem Rows.grown {w w' : World} {m : Nat} {vs : List Value} {ls : List (List UInt8)} (h : Rows w m vs ls) {b2 : Nat} {e2 : TypeId} {u : Value} {n : Nat} {ys : List Value} (k : w.ownsRow b2 e2 1 u n ys) (hne : 5 ≠ e2) (ho : w.grownBy w' u.ownBlock) : Rows w' m vs ls :=
  ⟨h.1, fun j v l h1 h2 => own_grown (h.2 j v l h1 h2) ho (own_types (h.2 j v l h1 h2) k hne)⟩
theorem Rows.snoc {w : World} {m : Nat} {vs : List Value} {ls : List (List UInt8)} (h : Rows w m vs ls) {v : Value} {l : List UInt8} (hb : w.ownsRow m 5 1 v l.length (l.map B)) : Rows w m (vs ++ [v]) (ls ++ [l]) := by
  have hl := h.1
  refine ⟨by simp [hl], fun j u k h1 h2 => ?_⟩
  by_cases hj : j < vs.length
  · rw [List.getElem?_append_left hj] at h1
    rw [List.getElem?_append_left (by omega)] at h2
    exact h.2 j u k h1 h2
  · have hj2 : j < (vs ++ [v]).length := (List.getElem?_eq_some_iff.1 h1).1
    obtain rfl : j = vs.length := by simp at hj2; omega
    rw [List.getElem?_append_right (Nat.le_refl _)] at h1
    rw [hl, List.getElem?_append_right (Nat.le_refl _)] at h2
    simp at h1 h2
    subst h1
    subst h2
    exact hb
theorem append_ownG {P : Program} (w : World) {w0 : World} {T : List Nat} (on : Only T w0 w) (t ty e : TypeId) (i : TypeInfo) (z : Value) (bytes : Nat) (ht : P.underlying t = some (.slice e)) (hi : P.info? e = some i) (hz : i.zero = some z)
    (hsize : i.size = 1) (hby : i.bytes = bytes) (hzs : z.cells.size = 1)
    (v : Value) (n : Nat) (xs : List Value) (hown : w.ownsRow w0.heap.size e 1 v n xs)
    (A : Option Addr) (m c : Nat) (news : List Value) (hr : Sl w A m news) (h1 : ∀ u ∈ news, u.oneCell' = true)
    (h63 : n + m ≤ maxLen) (hbytes : (n + m) * bytes ≤ 140737488355328) :
    ∃ A' c' w', (Builtin.append_ #[t, t] ty #[v, .slice A m c]).run P w = .ok (.slice A' (n + m) c') w' ∧ w'.ownsRow w0.heap.size e 1 (.slice A' (n + m) c') (n + m) (xs ++ news) ∧
      Only T w0 w' ∧ w.grownBy w' v.ownBlock := by
  obtain ⟨v', w', hrun, h2, h3, _⟩ := run_append_sl (P := P) w w0.heap.size t ty e i z bytes ht hi hz hsize hby hzs v n xs hown A m c news hr h1 h63 hbytes on.size
  obtain ⟨A', c', rfl, _, _⟩ := own_slice h2
  have hb : ∀ k, k < w0.heap.size → w'.heap[k]? = w.heap[k]? := fun k hk => h3.block k (Nat.lt_of_lt_of_le hk on.size) (fun e => by have := hown.lt k e.symm; omega)
  exact ⟨A', c', w', hrun, h2, ⟨h3.os.trans on.os, h3.tape.trans on.tape, h3.output.trans on.output, Nat.le_trans on.size h3.size, fun k hk hn => (hb k hk).trans (on.block k hk hn)⟩, h3⟩
theorem madeB_own2 {w w' : World} {l : List UInt8} {v : Value} (h : MadeB w l v w') : ∃ A c, v = .slice A l.length c ∧ w'.ownsRow w.heap.size 5 1 (.slice A l.length c) l.length (l.map B) ∧ Only [] w w' := by
  obtain ⟨A, c, rfl, h, o⟩ := h
  exact ⟨A, c, rfl, h, o⟩
def wantOf (keep : List Int) (i : Nat) (x : Line) : List UInt8 := if (i : Int) ∈ keep then x.now else x.kept
def wants (keep : List Int) (L : List Line) : List (List UInt8) := L.mapIdx (wantOf keep)
theorem wants_take {keep : List Int} {L : List Line} {k : Nat} {x : Line} (h : L[k]? = some x) : (wants keep L).take (k + 1) = (wants keep L).take k ++ [wantOf keep k x] := by
  unfold wants
  have hk := (List.getElem?_eq_some_iff.1 h).1
  rw [List.take_succ_eq_append_getElem (by simpa using hk), List.getElem_mapIdx, (List.getElem?_eq_some_iff.1 h).2]
theorem wants_get {keep : List Int} {L : List Line} {k : Nat} {x : Line} (h : L[k]? = some x) : (wants keep L)[k]? = some (wantOf keep k x) := by
  unfold wants
  rw [List.getElem?_mapIdx, h]
  rfl
theorem cutL_now (keep : List Int) (k : Nat) (x : Line) : (cutL keep k x).now = wantOf keep k x := by
  unfold cutL wantOf
  split
  · rename_i h
    rw [if_pos h.2]
  · rename_i h
    by_cases hk : (k : Int) ∈ keep
    · rw [if_pos hk]
      by_cases he : x.now = x.kept
      · exact he.symm
      · exact absurd ⟨by simpa using he, hk⟩ h
    · rw [if_neg hk]
theorem cutL_kept (keep : List Int) (k : Nat) (x : Line) : (cutL keep k x).kept = (cutL keep k x).now := by
  unfold cutL
  split <;> rfl
theorem cutL_sent (keep : List Int) (k : Nat) (x : Line) : (cutL keep k x).sent = false := by
  unfold cutL
  split <;> rfl
theorem those_none {p : Line → Bool} {L : List Line} (h : ∀ x ∈ L, p x = false) (m : Nat) : those p L m = [] := by
  unfold those
  rw [List.map_eq_nil_iff, List.filter_eq_nil_iff]
  intro j _
  cases hq : L[j]? with
  | none => simp
  | some x => simp [h x (List.mem_of_getElem? hq)]
theorem cut_loose (D : Dev) (keep : List Int) (m : Nat) : those (fun x => x.now != x.kept) (cutD D keep).lines m = [] :=
  those_none (fun x hx => by
    unfold cutD at hx
    obtain ⟨i, hi, rfl⟩ := List.mem_mapIdx.1 hx
    rw [cutL_kept]
    simp) m
theorem cut_sent (D : Dev) (keep : List Int) (m : Nat) : those (fun x => x.sent) (cutD D keep).lines m = [] :=
  those_none (fun x hx => by
    unfold cutD at hx
    obtain ⟨i, hi, rfl⟩ := List.mem_mapIdx.1 hx
    exact cutL_sent _ _ _) m
/-- what is kept so far -/
def pick (keep : List Int) (i : Nat) (a b : Value) : Value := if (i : Int) ∈ keep then a else b
theorem pick_hit {keep : List Int} {j : Nat} {i : Nat} {a b : Value} (hj : j < keep.length) (h : keep[j] = (i : Int)) : pick (keep.take (j + 1)) i a b = a := by
  unfold pick
  rw [if_pos]
  rw [List.take_succ_eq_append_getElem hj, h]
  simp
theorem pick_miss {keep : List Int} {j : Nat} {i : Nat} {a b : Value} (hj : j < keep.length) (h : keep[j] ≠ (i : Int)) : pick (keep.take (j + 1)) i a b = pick (keep.take j) i a b := by
  unfold pick
  have : ((i : Int) ∈ keep.take (j + 1)) ↔ ((i : Int) ∈ keep.take j) := by
    rw [List.take_succ_eq_append_getElem hj, List.mem_append, List.mem_singleton]
    exact ⟨fun h' => h'.elim id (fun e => absurd e.symm h), .inl⟩
  simp only [this]
theorem one_slice (A : Option Addr) (n c : Nat) : ∀ u ∈ [Value.slice A n c], u.oneCell' = true := by
  intro u hu
  rw [List.mem_singleton] at hu
  subst hu
  rfl
end Go.Proofs.Ytecdalmnndalgaa
/- Law 3: do both devices tell the same? -/
set_option maxRecDepth 100000
namespace Go.Proofs.Ytecdalmnndalgaa
open Go.RowKit Go.Proofs.FuMem Go.Proofs.FuNvm Go.Proofs.FuCode
/-- the list that holds a slice's own block -/
theorem own_list {w : World} {base : Nat} {e : TypeId} {size n : Nat} {v : Value} {xs : List Value} (h : w.ownsRow base e size v n xs) : ∃ S : List Nat, (∀ k, v.ownBlock = some k → k ∈ S) ∧ ∀ k ∈ S, base ≤ k ∧ k < w.heap.size := by
  refine ⟨v.ownBlock.toList, fun k hk => by rw [hk]; simp, fun k hk => ?_⟩
  have hk' : v.ownBlock = some k := by simpa using hk
  have h1 := World.ownsRow.lt h k hk'
  rcases h.2 with ⟨rfl, _⟩ | ⟨g, cap, cur, rfl, hbg, hg, _⟩
  · simp [Value.ownBlock] at hk'
  · have : g = k := by simpa [Value.ownBlock] using hk'
    subst this
    exact ⟨hbg, (Array.getElem?_eq_some_iff.1 hg).1⟩
end Go.Proofs.Ytecdalmnndalgaa
/- Law 9: alike (both clocks), lines2 (both devices). -/
namespace Go.Proofs.Ytecdalmnndalgaa
open Go.RowKit Go.Proofs.FuMem Go.Proofs.FuClk Go.Proofs.FuNvm Go.Proofs.FuCode
set_option maxRecDepth 100000
def leftR (R : Ref) : List Int := if R.closing then R.left else []
theorem law9_left (F : List Nat) (base rg : Nat) (R : Ref) (w : World) (h : RCAt w F base rg R) :
    Calls Try.prog 55 #[.pointer (some ⟨rg, 0, none⟩)] w fun e w' => ∃ A c, e = .returned (.slice A (leftR R).length c) ∧ Is w A (leftR R).length (leftR R) ∧ w = w' := by
  obtain ⟨nb, vs, lv, h⟩ := h
  have h3 : w.cell? ⟨rg, 3, none⟩ = some (.bool R.closing) := h.head.cell 3
  have h4 : w.cell? ⟨rg, 4, none⟩ = some lv := h.head.cell 4
  obtain ⟨A, c, rfl, his, _, _⟩ := h.left
  have HIS := Lib.hid his
  clear h his
  unfold leftR
  cases hc : R.closing with
  | true =>
    rw [hc] at h3
    simp only [if_true]
    generalize R.left = l at *
    go_enter Try.func55, Try.ntmps55
    go_wp2
    go_ret
    exact ⟨A, c, rfl, HIS.out, rfl⟩
  | false =>
    rw [hc] at h3
    clear h4 HIS
    go_enter Try.func55, Try.ntmps55
    go_wp2
    go_ret
    exact ⟨none, ⟨0, rfl⟩, Is.nil _ _, rfl⟩
theorem leftR_like {C : Clk} {R : Ref} (h : Like C R) (hok : C.Ok) : leftR R = trues C.left 258 := by
  unfold leftR
  rw [h.closing]
  by_cases p0 : C.phase = 0
  · rw [if_neg (by simp [p0]), hok.done (by omega), trues_false]
  · rw [if_pos (by simp [p0]), h.left p0]
theorem epoch_like {C : Clk} {R : Ref} (h : Like C R) (hok : C.Ok) : (if R.closing then IntKind.u64.wrap (R.now - 1) else 0) = C.closing ∧ R.closing = (C.closing != 0) := by
  have hz := closing_zero hok
  have hlo := hok.lo
  have hhi := hok.hi
  rw [h.closing, h.now]
  by_cases p0 : C.phase = 0
  · rw [if_neg (by simp [p0])]
    have := hz.2 p0
    rw [this]
    exact ⟨rfl, by simp [p0]⟩
  · have hb := hok.busy p0
    rw [if_pos (by simp [p0])]
    refine ⟨?_, ?_⟩
    · unfold Clk.closing
      rw [if_neg p0, IntKind.wrap_u64]
      omega
    · have : C.closing ≠ 0 := fun e => p0 (hz.1 e)
      simp [p0, this]
set_option maxHeartbeats 4000000 in
theorem law9_alike (F : List Nat) (base g ob rg : Nat) (C : Clk) (R : Ref) (w : World) (hk : ClkAt w g ob C) (hr : RCAt w F base rg R) (hL : Like C R) :
    Calls Try.prog 34 #[.pointer (some ⟨g, 0, none⟩), .pointer (some ⟨rg, 0, none⟩)] w fun e w' => e = .returned (.bool true) ∧ Only [] w w' := by
  have hok := hk.ok
  obtain ⟨e1, e2⟩ := epoch_like hL hok
  have HCL := Lib.hid (clk_Closing g ob C w hk)
  have hep := ref9_Epoch F base rg R w hr
  rw [e1, e2] at hep
  have HEP := Lib.hid hep
  have HOW := Lib.hid (fun w hk => clk_Owed g ob C w hk)
  have HLF := Lib.hid (fun w hk => clk_Left g ob C w hk)
  have HNO := Lib.hid (fun w hk => clk_Now g ob C w hk)
  have HDU := Lib.hid (fun w hk => clk_Durable g ob C w hk)
  have h4 := hok.owed4
  have hro := fun w hr => ref9_Owed F base rg R w hr (by rw [hL.len]; exact h4)
  rw [← hL.owed] at hro
  have HRO := Lib.hid hro
  have hrl := fun w hr => law9_left F base rg R w hr
  rw [leftR_like hL hok] at hrl
  have HRL := Lib.hid hrl
  have HCELL : Hid (∀ w', Only [] w w' → w'.cell? ⟨rg, 0, none⟩ = some (.int .u64 C.now) ∧ w'.cell? ⟨rg, 1, none⟩ = some (.int .u64 C.durable)) := Lib.hid (fun w' on => by
    obtain ⟨nb, vs, lv, h⟩ := hr.only0 on
    rw [← hL.now, ← hL.dur]
    exact ⟨h.head.cell 0, h.head.cell 1⟩)
  have HK := Lib.hid hk
  have HR := Lib.hid hr
  have htl := trues_length C.left 258
  clear hk hr hL hok e1 e2 hep hro hrl
  generalize C.closing = cl at *
  generalize C.now = nw at *
  generalize C.durable = du at *
  generalize C.owed = ow at *
  generalize trues C.left 258 = lf at *
  obtain ⟨cz, hcz⟩ : ∃ cz, cz = (cl != 0) := ⟨_, rfl⟩
  rw [← hcz] at HCL HEP
  clear hcz
  go_enter Try.func34, Try.ntmps34
  go_wp2_with fail
  refine (HCL.out).mono ?_
  rintro e w' ⟨rfl, rfl⟩
  go_wp2_with fail
  refine (HEP.out).mono ?_
  rintro e w' ⟨rfl, rfl⟩
  go_wp2_with fail
  refine (HOW.out _ HK.out).mono ?_
  rintro e w4 ⟨v4, rfl, A4, c4, rfl, b4, o4⟩
  have K4 := Lib.hid (HK.out.only0 o4)
  have O4 := Lib.hid o4
  have B4 := Lib.hid b4
  have hz4 := o4.size
  clear b4 o4
  go_wp2_with fail
  refine (HLF.out _ K4.out).mono ?_
  rintro e w5 ⟨v5, rfl, A5, c5, rfl, b5, o5⟩
  have hz5 := o5.size
  have O5 := Lib.hid (O4.out.trans0 o5)
  have B5 := Lib.hid (own_only B4.out o5 (by simp))
  have E5 := Lib.hid b5
  clear b5 o5 K4
  go_wp2_with fail
  have dr : Only [] w5 w5.drew := (Only.refl _ _).drew
  have OD := Lib.hid (O5.out.trans0 dr)
  have KD := Lib.hid (HK.out.only0 OD.out)
  have RD := Lib.hid (HR.out.only0 OD.out)
  have BD := Lib.hid (own_only B5.out dr (by simp))
  have ED := Lib.hid (own_only E5.out dr (by simp))
  obtain ⟨x0, x1⟩ := HCELL.out _ O5.out
  clear dr
  go_region_held3 (fun w' => w'.cell? ⟨rg, 0, none⟩ = some (.int .u64 nw) ∧ w'.cell? ⟨rg, 1, none⟩ = some (.int .u64 du)) (first | assumption | exact HCELL.out _ OD.out | exact HCELL.out _ O6.out | exact HCELL.out _ O7.out | exact HCELL.out _ O9.out | go_keep)
    (first
      | (go_at_call 11; refine (HNO.out _ KD.out).mono ?_; rintro e w' ⟨rfl, rfl⟩)
      | (go_at_call 12; refine (HDU.out _ KD.out).mono ?_; rintro e w' ⟨rfl, rfl⟩)
      | (go_at_call 54; refine (HRO.out _ RD.out).mono ?_; rintro e w6 ⟨v6, rfl, A6, c6, rfl, b6, o6⟩; have F6 := Lib.hid b6; have R6 := Lib.hid (RD.out.only0 o6); have B6 := Lib.hid (own_only BD.out o6 (by simp)); have E6 := Lib.hid (own_only ED.out o6 (by simp)); have O6 := Lib.hid (OD.out.trans0 o6); have O65 := Lib.hid (((Only.refl [] w5).drew).trans0 o6); clear b6 o6)
      | (go_at_call 53; refine (law0_SameInts A5 A8 _ _ _ _ _ _ _ (is_own E7.out) I8.out (by omega) (by omega)).mono ?_; rintro e w9 ⟨rfl, o9⟩; rw [beq_self_eq_true]; have B9 := Lib.hid (own_only B7.out o9 (by simp)); have E9 := Lib.hid (own_only E7.out o9 (by simp)); have O9 := Lib.hid (O7.out.trans0 o9); have O95 := Lib.hid (O75.out.trans0 o9); clear o9)
      | (go_at_call 53; refine (law0_SameInts A4 A6 _ _ _ _ _ _ _ (is_own B6.out) (is_own F6.out) (by omega) (by omega)).mono ?_; rintro e w7 ⟨rfl, o7⟩; rw [beq_self_eq_true]; have R7 := Lib.hid (R6.out.only0 o7); have B7 := Lib.hid (own_only B6.out o7 (by simp)); have E7 := Lib.hid (own_only E6.out o7 (by simp)); have O7 := Lib.hid (O6.out.trans0 o7); have O75 := Lib.hid (O65.out.trans0 o7); clear o7)
      | (go_at_call 55; refine (HRL.out _ R7.out).mono ?_; rintro e w' ⟨A8, c8, rfl, i8, rfl⟩; have I8 := Lib.hid i8; clear i8))
  obtain ⟨S, hS1, hS2⟩ := own_list B4.out
  have HS1 := Lib.hid hS1
  have HS2 := Lib.hid hS2
  have hs9 := O9.out.size
  have HZ9 := Lib.hid (show w4.heap.size ≤ w9.heap.size by have := O95.out.size; omega)
  clear hS1 hS2
  go_wp2_with fail
  refine (law0_OverInts2 S w.heap.size A4 _ c4 _ _ B9.out hs9 HS1.out (by omega)).mono ?_
  rintro e wc ⟨rfl, oc⟩
  have Ec := Lib.hid (own_only E9.out oc (fun k hk hb => by have h1 := HS2.out k hb; have h2 := own_ge E9.out k hk; omega))
  have Oc := Lib.hid (O9.out.trans oc (fun b hb => .inr (HS2.out b hb).1))
  have hsc := oc.size
  clear oc
  obtain ⟨S2, hT1, hT2⟩ := own_list Ec.out
  have HT1 := Lib.hid hT1
  have HT2 := Lib.hid hT2
  clear hT1 hT2
  go_wp2_with fail
  refine (law0_OverInts2 S2 w4.heap.size A5 _ c5 _ _ Ec.out (by have := O9.out.size; have := Oc.out.size; have := HZ9.out; omega) HT1.out (by omega)).mono ?_
  rintro e wd ⟨rfl, od⟩
  have Od := Lib.hid (Oc.out.trans od (fun b hb => .inr (by have := (HT2.out b hb).1; omega)))
  clear od
  go_wp2
  go_ret
  exact ⟨rfl, Od.out⟩
set_option maxHeartbeats 4000000 in
theorem law9_lines2 (g cb cap rg rb rcap : Nat) (D : Dev) (w : World) (hd : DevAt w g cb cap D) (hr : RefAt w rg rb rcap D) :
    Calls Try.prog 35 #[.pointer (some ⟨g, 0, none⟩), .pointer (some ⟨rg, 0, none⟩)] w fun e w' => e = .returned (.bool true) ∧ Only [] w w' := by
  have hf := hd.few
  have HD := Lib.hid hd
  have HR := Lib.hid hr
  clear hd hr
  obtain ⟨m, hm⟩ : ∃ m, m = D.lines.length := ⟨_, rfl⟩
  rw [← hm] at hf
  have HM := Lib.hid hm
  clear hm
  go_enter Try.func35, Try.ntmps35
  go_wp2
  go_loopw [5, 6, 7, 8, 9, 10, 11, 12, 13] (fun i _ _ _ _ _ _ _ _ wr => ∃ j : Nat, j ≤ m ∧ i = .int .i64 j ∧ Only [] w wr) (fun i _ _ _ _ _ _ _ _ _ => m - (intOf i).toNat)
  case atStart => exact ⟨0, Nat.zero_le _, rfl, Only.refl _ _⟩
  case round =>
    obtain ⟨k, hj, rfl, on⟩ := hrel
    have DR := Lib.hid (HD.out.only0 on)
    have RR := Lib.hid (HR.out.only0 on)
    have ON := Lib.hid on
    clear on
    have hc0 : wr.cell? ⟨rg, 0, none⟩ = some (.slice (some ⟨rb, 0, none⟩) m rcap) := by
      rw [RR.out.cell 0, HM.out]
      rfl
    by_cases hkm : k < m
    · have q1 : decide ((k : Int) < (m : Int)) = true := by rw [decide_eq_true_eq]; omega
      have hx := lineOf_get (D := D) (i := k) (by rw [← HM.out]; omega)
      generalize lineOf D (k : Int) = x at *
      have HX := Lib.hid hx
      have hok := DR.out.ok x (List.mem_of_getElem? hx)
      have HN1 := Lib.hid hok.1
      have HN2 := Lib.hid hok.2.1
      clear hx hok
      go_wp2_with fail
      refine (nvm_Load g cb cap D k x HX.out _ DR.out).mono ?_
      rintro e w4 ⟨v4, rfl, m4⟩
      obtain ⟨A4, c4, rfl, b4, o4⟩ := madeB_own2 m4
      rw [HN1.out] at b4 ⊢
      have D4 := Lib.hid (DR.out.only0 o4)
      have R4 := Lib.hid (RR.out.only0 o4)
      have O4 := Lib.hid (ON.out.trans0 o4)
      have B4 := Lib.hid b4
      clear m4 b4 o4
      go_wp2_with fail
      refine (ref3_Load rg rb rcap D k x HX.out _ R4.out).mono ?_
      rintro e w5 ⟨v5, rfl, g5, rfl, b5, f5, o5⟩
      rw [HN1.out] at b5 ⊢
      have D5 := Lib.hid (D4.out.only0 o5)
      have R5 := Lib.hid (R4.out.only0 o5)
      have O5 := Lib.hid (O4.out.trans0 o5)
      have B5 := Lib.hid (own_only B4.out o5 (by simp))
      have C5 := Lib.hid b5
      clear b5 o5 f5
      go_wp2_with fail
      refine (nvm_Durable g cb cap D k x HX.out _ D5.out).mono ?_
      rintro e w6 ⟨v6, rfl, m6⟩
      obtain ⟨A6, c6, rfl, b6, o6⟩ := madeB_own2 m6
      rw [HN2.out] at b6 ⊢
      have R6 := Lib.hid (R5.out.only0 o6)
      have O6 := Lib.hid (O5.out.trans0 o6)
      have B6 := Lib.hid (own_only B5.out o6 (by simp))
      have C6 := Lib.hid (Bs.only0 C5.out o6)
      have E6 := Lib.hid b6
      clear m6 b6 o6
      go_wp2_with fail
      refine (ref3_Durable rg rb rcap D k x HX.out _ R6.out).mono ?_
      rintro e w7 ⟨v7, rfl, g7, rfl, b7, f7, o7⟩
      rw [HN2.out] at b7 ⊢
      have O7 := Lib.hid (O6.out.trans0 o7)
      have B7 := Lib.hid (own_only B6.out o7 (by simp))
      have C7 := Lib.hid (Bs.only0 C6.out o7)
      have E7 := Lib.hid (own_only E6.out o7 (by simp))
      have F7 := Lib.hid b7
      clear b7 o7 f7
      go_wp2_with fail
      refine (law0_SameBytes _ _ _ _ _ _ _ _ _ (bs_own B7.out) C7.out).mono ?_
      rintro e w' ⟨rfl, rfl⟩
      rw [beq_self_eq_true]
      go_wp2_with fail
      refine (law0_SameBytes _ _ _ _ _ _ _ _ _ (bs_own E7.out) F7.out).mono ?_
      rintro e w' ⟨rfl, rfl⟩
      rw [beq_self_eq_true]
      go_wp2
      go_roundw
      case rel => exact ⟨k + 1, by omega, by go_num, O7.out⟩
      case measure => simp [intOf]; omega
    · obtain rfl : k = m := by omega
      have q1 : decide ((k : Int) < (k : Int)) = false := by simp
      go_wp2
      go_ret
      exact ⟨rfl, ON.out⟩
end Go.Proofs.Ytecdalmnndalgaa
/- Law 9: acts, what every program answers that is one, and the walk of DurableNone. -/
namespace Go.Proofs.FuClk
open Go.RowKit Go.Proofs.FuMem
/-- an act: what it does, a thread, a line, a byte -/
abbrev Deed := Int × Int × Int × Int
def bd64 (x : Int) : Prop := -9223372036854775808 ≤ x ∧ x ≤ 9223372036854775807
def Deed.bd (x : Deed) : Prop := bd64 x.1 ∧ bd64 x.2.1 ∧ bd64 x.2.2.1 ∧ bd64 x.2.2.2
def deedAt (w : World) (b o : Nat) (x : Deed) : Prop := w.cell? ⟨b, o, none⟩ = some (.int .i64 x.1) ∧ w.cell? ⟨b, o + 1, none⟩ = some (.int .i64 x.2.1) ∧ w.cell? ⟨b, o + 2, none⟩ = some (.int .i64 x.2.2.1) ∧ w.cell? ⟨b, o + 3, none⟩ = some (.int .i64 x.2.2.2)
def Acts (w : World) (A : Option Addr) (n : Nat) (xs : List Deed) : Prop :=
  xs.length = n ∧ n ≤ maxLen ∧ (∀ x ∈ xs, Deed.bd x) ∧ (n = 0 ∨ ∃ b off, A = some ⟨b, off, none⟩ ∧ ∀ k x, xs[k]? = some x → deedAt w b (off + k * 4) x)
theorem deedAt.only0 {w w' : World} {b o : Nat} {x : Deed} (h : deedAt w b o x) (ho : Only [] w w') : deedAt w' b o x := by
  obtain ⟨c0, c1, c2, c3⟩ := h
  have hb := lt_of_cell c0
  exact ⟨(cell_only ho hb (by simp)).trans c0, (cell_only ho hb (by simp)).trans c1, (cell_only ho hb (by simp)).trans c2, (cell_only ho hb (by simp)).trans c3⟩
theorem Acts.only0 {w w' : World} {A : Option Addr} {n : Nat} {xs : List Deed} (h : Acts w A n xs) (o : Only [] w w') : Acts w' A n xs := by
  obtain ⟨h1, h2, h3, h4⟩ := h
  refine ⟨h1, h2, h3, ?_⟩
  rcases h4 with h4 | ⟨b, off, e, h4⟩
  · exact .inl h4
  · exact .inr ⟨b, off, e, fun k x hk => (h4 k x hk).only0 o⟩
/-- the act at a place: its cells -/
theorem Acts.at_ {w : World} {A : Option Addr} {n : Nat} {xs : List Deed} (h : Acts w A n xs) {j : Nat} (hj : j < n) : ∃ b off x, A = some ⟨b, off, none⟩ ∧ xs[j]? = some x ∧ Deed.bd x ∧ deedAt w b (off + j * 4) x ∧ b < w.heap.size := by
  obtain ⟨h1, h2, h3, h4⟩ := h
  rcases h4 with h4 | ⟨b, off, e, h4⟩
  · omega
  · have hx : xs[j]? = some (xs[j]'(by omega)) := List.getElem?_eq_getElem (by omega)
    exact ⟨b, off, _, e, hx, h3 _ (List.getElem_mem _), h4 j _ hx, lt_of_cell (h4 j _ hx).1⟩
end Go.Proofs.FuClk
namespace Go.Proofs.Ytecdalmnndalgaa
open Go.ChangeShapes Go.WideShapes Go.ChangeAt Go.RowKit Go.Proofs.FuMem Go.Proofs.FuClk Go.Deep
set_option maxRecDepth 100000
theorem open_acts9 {H : Type} {enc : TypeId × Value → H} {w : World} {held : Bool} {A : Option Addr} {n c : Nat} {d : DataW H} {p : List MemPlace}
    (h : DataW.Trod enc Try.prog w 0 (fun _ => true) held 22 (.slice A n c) d p) : ∃ xs, Acts w A n xs ∧ n ≤ c := by
  obtain ⟨h1, h2, h3⟩ := open_table Try.underlying22 Try.underlying34 (by kernel_rfl) (by kernel_rfl) (by decide) h
  rcases h3 with rfl | ⟨b, off, rfl, hf⟩
  · exact ⟨[], ⟨rfl, Nat.zero_le _, by simp, .inl rfl⟩, h1⟩
  have each : ∀ i, i < n → ∃ x : Deed, Deed.bd x ∧ deedAt w b (off + i * 4) x := by
    intro i hi
    obtain ⟨v0, y0, m0, c0, t0⟩ := hf i hi 0 _ rfl
    obtain ⟨v1, y1, m1, c1, t1⟩ := hf i hi 1 _ rfl
    obtain ⟨v2, y2, m2, c2, t2⟩ := hf i hi 2 _ rfl
    obtain ⟨v3, y3, m3, c3, t3⟩ := hf i hi 3 _ rfl
    obtain ⟨x0, rfl, b0⟩ := field_int Try.underlying3 t0
    obtain ⟨x1, rfl, b1⟩ := field_int Try.underlying3 t1
    obtain ⟨x2, rfl, b2⟩ := field_int Try.underlying3 t2
    obtain ⟨x3, rfl, b3⟩ := field_int Try.underlying3 t3
    exact ⟨(x0, x1, x2, x3), ⟨b0, b1, b2, b3⟩, c0, by rw [Nat.add_assoc]; exact c1, by rw [Nat.add_assoc]; exact c2, by rw [Nat.add_assoc]; exact c3⟩
  have all : ∃ xs : List Deed, xs.length = n ∧ ∀ k x, xs[k]? = some x → Deed.bd x ∧ deedAt w b (off + k * 4) x := by
    clear hf h h1 h2
    induction n with
    | zero => exact ⟨[], rfl, by simp⟩
    | succ n ih =>
      obtain ⟨xs, hl, hx⟩ := ih (fun i hi => each i (by omega))
      obtain ⟨x, h2⟩ := each n (by omega)
      refine ⟨xs ++ [x], by simp [hl], fun k y hk => ?_⟩
      by_cases hkl : k < xs.length
      · rw [List.getElem?_append_left hkl] at hk
        exact hx k y hk
      · rw [List.getElem?_append_right (by omega)] at hk
        have : k = n := by
          have := (List.getElem?_eq_some_iff.1 hk).1
          simp at this
          omega
        subst this
        rw [hl, Nat.sub_self] at hk
        cases hk
        exact h2
  obtain ⟨xs, hl, hx⟩ := all
  refine ⟨xs, ⟨hl, by omega, fun x hxm => ?_, .inr ⟨b, off, rfl, fun k x hk => (hx k x hk).2⟩⟩, h1⟩
  obtain ⟨k, hk, rfl⟩ := List.getElem_of_mem hxm
  exact (hx k _ (List.getElem?_eq_getElem hk)).1
set_option maxHeartbeats 1000000 in
theorem law9_awake (w : World) : Calls Try.prog 8 #[] w fun e w' => e = .returned (.bool true) ∧ Only [] w w' := by
  have HN := Lib.hid (clk_New 1 0 w (by omega) (by omega) (by omega) (by omega))
  have c1 : (newClk 1 0).now = 1 := rfl
  have c2 : (newClk 1 0).durable = 0 := rfl
  have c3 : (newClk 1 0).owed.length = 1 := rfl
  have c5 : (newClk 1 0).phase = 0 := rfl
  generalize newClk 1 0 = C at *
  go_enter Try.func8, Try.ntmps8
  go_wp2_with fail
  refine HN.out.mono ?_
  rintro e w1 ⟨g, ob, rfl, k1, o1, h1, h2⟩
  have K1 := Lib.hid k1
  have O1 := Lib.hid o1
  clear k1 o1
  have HNO := Lib.hid (clk_Now g ob C w1 K1.out)
  have HDU := Lib.hid (clk_Durable g ob C w1 K1.out)
  have HNT := Lib.hid (clk_Note g ob C 0 5 w1 K1.out (by omega) (by omega))
  rw [c1] at HNO
  rw [c2] at HDU
  clear HN
  go_wp2_with fail
  refine (HNO.out).mono ?_
  rintro e w' ⟨rfl, rfl⟩
  go_wp2_with fail
  refine (HDU.out).mono ?_
  rintro e w' ⟨rfl, rfl⟩
  go_wp2_with fail
  refine HNT.out.mono ?_
  rintro e w2 ⟨rfl, k2, o2⟩
  have O2 := Lib.hid (O1.out.trans o2 (by intro b hb; simp at hb; omega))
  have HB := Lib.hid (clk_Begin g ob (noteC C 0 5) w2 k2 c5 (by show C.now + 1 < _; omega))
  have hn : (noteC C 0 5).now = 1 := c1
  have HN5 := Lib.hid hn
  clear k2 o2 hn
  generalize noteC C 0 5 = C5 at *
  go_wp2_with fail
  refine HB.out.mono ?_
  rintro e w3 ⟨rfl, k3, o3⟩
  have O3 := Lib.hid (O2.out.trans o3 (by intro b hb; simp at hb; omega))
  have HNO3 := Lib.hid (clk_Now g ob _ w3 k3)
  have hn3 : (beginC C5).now = 2 := by show C5.now + 1 = 2; rw [HN5.out]; omega
  rw [hn3] at HNO3
  have HBB := Lib.hid (clk_Begin_busy g ob _ w3 k3 (by show (1 : Nat) ≠ 0; omega))
  clear k3 o3 hn3
  go_wp2_with fail
  refine (HNO3.out).mono ?_
  rintro e w' ⟨rfl, rfl⟩
  go_wp2_with fail
  refine (HBB.out).mono ?_
  rintro e w' ⟨rfl, rfl⟩
  go_wp2
  go_ret
  exact ⟨rfl, O3.out⟩
set_option maxHeartbeats 1000000 in
theorem walk_DurableNone (t line : Int) (w : World) (_h1 : -9223372036854775808 ≤ t ∧ t ≤ 9223372036854775807) (_h2 : -9223372036854775808 ≤ line ∧ line ≤ 9223372036854775807) :
    Calls Try.prog 4 #[.int .i64 t, .int .i64 line] w fun e w' => e = .returned (.bool true) ∧ Only [] w w' := by
  have O0 := Lib.hid (Only.refl [] w)
  go_enter Try.func4, Try.ntmps4
  go_wp2_with fail
  refine (clk_Step_nil none w).mono ?_
  rintro e w' ⟨rfl, rfl⟩
  go_wp2_with fail
  refine (clk_Closing_nil w).mono ?_
  rintro e w' ⟨rfl, rfl⟩
  go_wp2_with fail
  refine (clk_Note_nil t line w).mono ?_
  rintro e w' ⟨rfl, rfl⟩
  go_wp2_with fail
  refine (clk_Begin_nil w).mono ?_
  rintro e w' ⟨rfl, rfl⟩
  go_wp2_with fail
  refine (clk_Now_nil w).mono ?_
  rintro e w' ⟨rfl, rfl⟩
  go_wp2_with fail
  refine (clk_Durable_nil w).mono ?_
  rintro e w' ⟨rfl, rfl⟩
  go_wp2_with fail
  refine (clk_Owed_nil w).mono ?_
  rintro e w' ⟨rfl, rfl⟩
  go_wp2_with fail
  refine (clk_Left_nil w).mono ?_
  rintro e w' ⟨rfl, rfl⟩
  go_wp2_with fail
  refine (law9_awake _).mono ?_
  rintro e wz ⟨rfl, oz⟩
  have OZ := Lib.hid (O0.out.trans0 oz)
  clear oz
  go_wp2
  go_ret
  exact ⟨rfl, OZ.out⟩
end Go.Proofs.Ytecdalmnndalgaa
/- Law 9: the walk of DurableScript. -/
namespace Go.Proofs.Ytecdalmnndalgaa
open Go.RowKit Go.Proofs.FuMem Go.Proofs.FuClk Go.Proofs.FuNvm Go.Proofs.FuCode
set_option maxRecDepth 100000
theorem beginT_bd {C : Clk} {n : Int} (h : C.now ≤ n) : (beginT C).now ≤ n + 1 := by
  unfold beginT
  split
  · show C.now + 1 ≤ n + 1
    omega
  · omega
theorem noteT_bd {C : Clk} {n : Int} (h : C.now ≤ n) (t line : Int) : (noteT C t line).now ≤ n + 1 := by
  unfold noteT
  split
  · show C.now ≤ n + 1
    omega
  · omega
theorem stepC_bd {C : Clk} {n : Int} (h : C.now ≤ n) : (stepC C).now ≤ n + 1 := by
  unfold stepC
  split
  · omega
  split
  · split
    · show C.now ≤ n + 1
      omega
    · show C.now ≤ n + 1
      omega
  split
  · show C.now ≤ n + 1
    omega
  split
  · show C.now ≤ n + 1
    omega
  · show C.now ≤ n + 1
    omega
theorem notes_more {R : Ref} {j : Nat} (h : ∀ l ∈ R.notes, l.length ≤ j) : ∀ l ∈ R.notes, l.length ≤ j + 1 := fun l hl => by have := h l hl; omega
theorem clk_x {F : List Nat} {base : Nat} {w w' : World} {g ob : Nat} {C : Clk} (h : ClkAt w g ob C) (o : OnlyX F base w w') (hg : g ∈ F) (hob : ob ∈ F) : ClkAt w' g ob C := by
  obtain ⟨T, h1, h2⟩ := o
  exact h.only h1 (fun hm => (h2 _ hm).1 hg) (fun hm => (h2 _ hm).1 hob)
theorem dev_x {tD tC : TypeId} {F : List Nat} {base : Nat} {w w' : World} {g cb cap : Nat} {D : Dev} (h : IsDev tD tC w g cb cap D) (o : OnlyX F base w w') (hg : g ∈ F) (hob : cb ∈ F) : IsDev tD tC w' g cb cap D := by
  obtain ⟨T, h1, h2⟩ := o
  exact h.only h1 (fun hm => (h2 _ hm).1 hg) (fun hm => (h2 _ hm).1 hob)
theorem u8_of' (y : Int) : ∃ x : UInt8, IntKind.u8.wrap y = (x.toNat : Int) := by
  refine ⟨UInt8.ofNat (y % 256).toNat, ?_⟩
  rw [IntKind.wrap_u8, UInt8.toNat_ofNat']
  omega
set_option maxHeartbeats 30000000 in
theorem walk_DurableScript (threads : Int) (d0 : Nat) (lines : Int) (A : Option Addr) (n c : Nat) (xs : List FuClk.Deed) (w : World) (_bt : -9223372036854775808 ≤ threads ∧ threads ≤ 9223372036854775807) (_hd0 : d0 < 18446744073709551616) (_bl : -9223372036854775808 ≤ lines ∧ lines ≤ 9223372036854775807) (h : FuClk.Acts w A n xs) (_hc : n ≤ c) :
    Calls Try.prog 6 #[.int .i64 threads, .int .u64 d0, .int .i64 lines, .slice A n c] w fun e w' => e = .returned (.bool true) ∧ Only [] w w' := by
  have O0 := Lib.hid (Only.refl [] w)
  by_cases hbig : 120 < n
  · have q0 : decide ((120 : Int) < (n : Int)) = true := by rw [decide_eq_true_eq]; omega
    clear h
    go_enter Try.func6, Try.ntmps6
    go_wp2_with fail
    refine (law9_awake _).mono ?_
    rintro e wz ⟨rfl, oz⟩
    have OZ := Lib.hid (O0.out.trans0 oz)
    clear oz
    go_wp2
    go_ret
    exact ⟨rfl, OZ.out⟩
  have q0 : decide ((120 : Int) < (n : Int)) = false := by rw [decide_eq_false_iff_not]; omega
  have hn : n ≤ 120 := by omega
  clear hbig
  have hlow := low_lt lines 12 (by omega)
  have HLW := Lib.hid (fun w => law0_Low lines 12 w (by omega) (by omega))
  generalize low lines 12 = q at *
  have hw1 : IntKind.i64.wrap (1 + (q : Int)) = ((1 + q : Nat) : Int) := by rw [IntKind.wrap_i64]; omega
  have HND := Lib.hid (fun w => nvm_New (1 + q) w (by omega) (by omega))
  have HNV := Lib.hid (fun w => ref3_New (1 + q) w (by omega) (by omega))
  by_cases hbad : (threads < 1 ∨ 4 < threads) ∨ (1152921504606846976 : Int) < (d0 : Int)
  · obtain ⟨code, HC, HR⟩ : ∃ code : Int, Hid (∀ w, Calls Try.prog 9 #[.int .i64 threads, .int .u64 d0] w fun e w' => e = .returned (.tuple #[.pointer none, .int .i64 code]) ∧ w = w') ∧ Hid (∀ w, Calls Try.prog 25 #[.int .i64 threads, .int .u64 d0] w fun e w' => e = .returned (.tuple #[.pointer none, .int .i64 code]) ∧ w = w') := by
      by_cases hf : threads < 1 ∨ 4 < threads
      · exact ⟨2, Lib.hid fun w => clk_New_few threads d0 w hf, Lib.hid fun w => ref9_New_few threads d0 w hf⟩
      · exact ⟨10, Lib.hid fun w => clk_New_end threads d0 w hf (by omega), Lib.hid fun w => ref9_New_end threads d0 w hf (by omega)⟩
    have hz : (code != code) = false := by simp
    clear h hbad
    go_enter Try.func6, Try.ntmps6
    go_wp2_with fail
    refine (HC.out _).mono ?_
    rintro e w' ⟨rfl, rfl⟩
    go_wp2_with fail
    refine (HR.out _).mono ?_
    rintro e w' ⟨rfl, rfl⟩
    go_wp2_with fail
    refine (law0_Num _ _).mono ?_
    rintro e w' ⟨rfl, rfl⟩
    go_wp2_with fail
    refine (HLW.out _).mono ?_
    rintro e w' ⟨rfl, rfl⟩
    go_wp2_with fail
    refine (HND.out w).mono ?_
    rintro e w1 ⟨dg, dcb, rfl, d1, o1, _, _⟩
    have O1 := Lib.hid (O0.out.trans0 o1)
    clear d1 o1
    go_wp2_with fail
    refine (HLW.out _).mono ?_
    rintro e w' ⟨rfl, rfl⟩
    go_wp2_with fail
    refine (HNV.out w1).mono ?_
    rintro e w2 ⟨vg, vb, rfl, d2, o2, _, _⟩
    have O2 := Lib.hid (O1.out.trans0 o2)
    clear d2 o2
    go_wp2_with fail
    refine (law9_awake _).mono ?_
    rintro e wz ⟨rfl, oz⟩
    have OZ := Lib.hid (O2.out.trans0 oz)
    clear oz
    go_wp2
    go_ret
    exact ⟨rfl, OZ.out⟩
  obtain ⟨nt, rfl⟩ := Int.eq_ofNat_of_zero_le (show 0 ≤ threads by omega)
  have HN := Lib.hid (clk_New nt d0 w (by omega) (by omega) (by omega) (by omega))
  have HRN := Lib.hid (fun w1 F hF (h : w.heap.size ≤ w1.heap.size) => ref9_New nt d0 F w.heap.size w1 hF (by omega) (by omega) (by omega) (by omega) h)
  have HLK0 := Lib.hid (like_new nt d0)
  have HFW0 : Hid (∀ l ∈ (newRef nt d0).notes, l.length ≤ 0) := Lib.hid fun l hl => by
    have hl' : l ∈ List.replicate nt ([] : List Int) := hl
    rw [(List.mem_replicate.1 hl').2]
    exact Nat.le_refl _
  have HNW0 := Lib.hid (show (newClk nt d0).now ≤ (d0 : Int) + 1 + ((0 : Nat) : Int) by show (d0 : Int) + 1 ≤ _; omega)
  have hd1 : (d0 : Int) ≤ 1152921504606846976 := by omega
  have HX := Lib.hid h
  generalize newClk nt d0 = C0 at *
  generalize newRef nt d0 = R0 at *
  clear h hbad
  have hz : ((0 : Int) != 0) = false := rfl
  go_enter Try.func6, Try.ntmps6
  go_wp2_with fail
  refine HN.out.mono ?_
  rintro e w1 ⟨g, ob, rfl, k1, o1, hg, hob⟩
  have hne := k1.ne
  have lg := k1.lt1
  have lo := k1.lt2
  have K1 := Lib.hid k1
  have O1 := Lib.hid o1
  clear k1 o1 HN
  go_wp2_with fail
  refine (HRN.out w1 [g, ob] (by simp; omega) O1.out.size).mono ?_
  rintro e w2 ⟨rg, rfl, r2, o2, hrg, hrg2⟩
  have K2 := Lib.hid (K1.out.only0 o2)
  have R2 := Lib.hid r2
  have O2 := Lib.hid (O1.out.trans0 o2)
  have s2 := o2.size
  clear r2 o2 K1 HRN
  go_wp2_with fail
  refine (law0_Num _ _).mono ?_
  rintro e w' ⟨rfl, rfl⟩
  go_wp2_with fail
  refine (HLW.out _).mono ?_
  rintro e w' ⟨rfl, rfl⟩
  go_wp2_with fail
  refine (HND.out w2).mono ?_
  rintro e w3 ⟨dg, dcb, rfl, d3, o3, hdg, hdcb⟩
  have K3 := Lib.hid (K2.out.only0 o3)
  have D3 := Lib.hid d3
  have O3 := Lib.hid (O2.out.trans0 o3)
  have o23 := o3
  have s3 := o3.size
  have ldg := d3.lt1
  have ldb := d3.lt2
  clear d3 o3 K2
  go_wp2_with fail
  refine (HLW.out _).mono ?_
  rintro e w' ⟨rfl, rfl⟩
  go_wp2_with fail
  refine (HNV.out w3).mono ?_
  rintro e w4 ⟨vg, vb, rfl, v4, o4, hvg, hvb⟩
  have K4 := Lib.hid (K3.out.only0 o4)
  have D4 := Lib.hid (D3.out.only0 o4)
  have V4 := Lib.hid v4
  have O4 := Lib.hid (O3.out.trans0 o4)
  have s4 := o4.size
  have lvg := v4.lt1
  have lvb := v4.lt2
  have s1 := O1.out.size
  have R4 := Lib.hid (R2.out.ext (F' := [vg, vb, g, ob, dg, dcb]) (fun b hb => by simp at hb ⊢; omega) (o23.trans0 o4) (fun b hb => by simp at hb; omega))
  have HSEP := Lib.hid (show g ≠ dg ∧ g ≠ dcb ∧ ob ≠ dg ∧ ob ≠ dcb by omega)
  obtain ⟨F, hF⟩ : ∃ F : List Nat, F = [vg, vb, g, ob, dg, dcb] := ⟨_, rfl⟩
  obtain ⟨F0, hF0⟩ : ∃ F0 : List Nat, F0 = [g, ob, dg, dcb] := ⟨_, rfl⟩
  have hFF : F = vg :: vb :: F0 := by rw [hF, hF0]
  rw [← hF] at R4
  have HIN := Lib.hid (show g ∈ F ∧ ob ∈ F ∧ dg ∈ F ∧ dcb ∈ F ∧ vg ∈ F ∧ vb ∈ F by rw [hF]; simp)
  have HIN0 := Lib.hid (show g ∈ F0 ∧ ob ∈ F0 ∧ dg ∈ F0 ∧ dcb ∈ F0 by rw [hF0]; simp)
  have HNIN := Lib.hid (show vg ∉ F0 ∧ vb ∉ F0 by rw [hF0]; simp; omega)
  have HV := Lib.hid (show w.heap.size ≤ vg ∧ w.heap.size ≤ vb ∧ w.heap.size ≤ dg ∧ w.heap.size ≤ dcb ∧ w.heap.size ≤ g ∧ w.heap.size ≤ ob by omega)
  have HSEQ := Lib.hid (show vg ≠ dg ∧ vg ≠ dcb ∧ vb ≠ dg ∧ vb ≠ dcb ∧ vg ≠ g ∧ vg ≠ ob ∧ vb ≠ g ∧ vb ≠ ob by omega)
  have HFF := Lib.hid hFF
  clear hF hF0 hFF o23 o4 v4 K3 D3 O3 R2 O2 O1 hrg hrg2 hdg hdcb hvg hvb hg hob lg lo ldg ldb lvg lvb s1 s2 s3 s4 HND HNV HLW
  generalize newDev (1 + q) = D0 at *
  go_wp2
  go_loopw [17] (fun iv wr => ∃ (j : Nat) (C : Clk) (R : Ref) (D : Dev), j ≤ n ∧ iv = .int .i64 j ∧ ClkAt wr g ob C ∧ RCAt wr F w.heap.size rg R ∧ DevAt wr dg dcb (1 + q) D ∧ RefAt wr vg vb (1 + q) D ∧ Like C R ∧ (∀ l ∈ R.notes, l.length ≤ j) ∧ C.now ≤ (d0 : Int) + 1 + j ∧ Only [] w wr) (fun iv _ => n - (intOf iv).toNat)
  case atStart => exact ⟨0, C0, R0, D0, by omega, rfl, K4.out, R4.out, D4.out, V4.out, HLK0.out, HFW0.out, HNW0.out, O4.out⟩
  case round =>
    obtain ⟨j, C, R, D, hj, rfl, hk, hr, hd, hv, hlk, hfw, hnw, on⟩ := hrel
    clear K4 R4 D4 V4 HLK0 HFW0 HNW0 O4
    have KK := Lib.hid hk
    have RR := Lib.hid hr
    have DD := Lib.hid hd
    have VV := Lib.hid hv
    have LK := Lib.hid hlk
    have FW := Lib.hid hfw
    have NW := Lib.hid hnw
    have ON := Lib.hid on
    clear hk hr hd hv hlk hfw hnw on
    by_cases hlt : j < n
    · have y1 : (0 : Int) ≤ (j : Int) := by omega
      have y2 : (j : Int) < (n : Int) := by omega
      have y3 : decide ((j : Int) < (n : Int)) = true := by rw [decide_eq_true_eq]; omega
      obtain ⟨b, off, x, hAe, hx, hbd, hcell0, hbw⟩ := HX.out.at_ hlt
      have hcell := hcell0.only0 ON.out
      obtain ⟨kd, t, ln, by_⟩ := x
      obtain ⟨c0, c1, c2, c3⟩ := hcell
      simp only at c0 c1 c2 c3
      subst hAe
      have hb5 := Blk.new wr 34 #[.int .i64 kd, .int .i64 t, .int .i64 ln, .int .i64 by_]
      have o5 : Only [] wr (wr.alloc (.cells #[.int .i64 kd, .int .i64 t, .int .i64 ln, .int .i64 by_] 34)) := (Only.refl _ _).alloc _
      obtain ⟨w5, hw5⟩ : ∃ w5, w5 = wr.alloc (.cells #[.int .i64 kd, .int .i64 t, .int .i64 ln, .int .i64 by_] 34) := ⟨_, rfl⟩
      rw [← hw5] at hb5 o5
      have lg := KK.out.lt1
      have lo := KK.out.lt2
      have ldg := DD.out.lt1
      have ldb := DD.out.lt2
      have lvg := VV.out.lt1
      have lvb := VV.out.lt2
      have HXN := Lib.hid (show wr.heap.size ≠ g ∧ wr.heap.size ≠ ob ∧ wr.heap.size ≠ dg ∧ wr.heap.size ≠ dcb ∧ wr.heap.size ≠ vg ∧ wr.heap.size ≠ vb by omega)
      have K5 := Lib.hid (KK.out.only0 o5)
      have hlt5 := hb5.lt
      have R5 := Lib.hid (RR.out.ext (F' := wr.heap.size :: F) (fun b hb => by rcases List.mem_cons.1 hb with rfl | hb; exact .inr (Nat.le_refl _); exact .inl hb) o5 (fun b hb => by rcases List.mem_cons.1 hb with rfl | hb; exact hlt5; obtain ⟨_, _, _, hri⟩ := RR.out; have h1 := hri.few b hb; have h2 := o5.size; omega))
      have D5 := Lib.hid (DD.out.only0 o5)
      have V5 := Lib.hid (VV.out.only0 o5)
      have O5 := Lib.hid (ON.out.trans0 o5)
      have B5 := Lib.hid hb5
      have HW5 := Lib.hid hw5
      have hcells5 : w5.cell? ⟨wr.heap.size, 1, none⟩ = some (.int .i64 t) ∧ w5.cell? ⟨wr.heap.size, 2, none⟩ = some (.int .i64 ln) ∧ w5.cell? ⟨wr.heap.size, 3, none⟩ = some (.int .i64 by_) := ⟨hb5.cell 1, hb5.cell 2, hb5.cell 3⟩
      clear hbd hx hcell0 hbw hb5 o5 hw5 KK RR DD VV ON lg lo ldg ldb lvg lvb hlt5
      by_cases k0 : kd = 0
      · subst k0
        have u1 : (noteNo C t ln != noteNo C t ln) = false := by simp
        have HNT := Lib.hid (fun w h => clk_Note_any g ob C t ln w h)
        have hrn := fun u h => ref9_Note_any (wr.heap.size :: F) w.heap.size rg R t ln u h (fun l hl => by have := FW.out l hl; omega)
        have LK2 := Lib.hid (like_note LK.out K5.out.ok (fun l hl => by have := FW.out l hl; omega) t ln)
        have FW2 := Lib.hid (noteRT_few FW.out t ln)
        have NW2 := Lib.hid (show (noteT C t ln).now ≤ (d0 : Int) + 1 + ((j + 1 : Nat) : Int) by have := noteT_bd NW.out t ln; omega)
        simp only [noteNo_like LK.out] at hrn
        have HRN := Lib.hid hrn
        clear hrn
        generalize noteNo C t ln = z at *
        generalize noteT C t ln = C2 at *
        generalize noteRT R t ln = R2 at *
        go_wp2
        rw [← HW5.out]
        have dr : Only [] w5 w5.drew := (Only.refl _ _).drew
        have K6 := Lib.hid (K5.out.only0 dr)
        clear dr
        obtain ⟨x1, x2, x3⟩ := hcells5
        go_region_held3 (fun w' => w'.cell? ⟨wr.heap.size, 1, none⟩ = some (.int .i64 t) ∧ w'.cell? ⟨wr.heap.size, 2, none⟩ = some (.int .i64 ln)) (first | assumption | exact ⟨B5.out.cell 1, B5.out.cell 2⟩ | go_keep)
          (first
            | (go_at_call 13; refine (HNT.out _ K6.out).mono ?_; rintro e w7 ⟨rfl, k7, o7⟩; have o57 := (Only.refl [g, ob] w5).drew.trans o7 (by simp); have B7 := Lib.hid (B5.out.only o57 (by have := HXN.out; simp; omega)); have hcells7 : w7.cell? ⟨wr.heap.size, 1, none⟩ = some (.int .i64 t) ∧ w7.cell? ⟨wr.heap.size, 2, none⟩ = some (.int .i64 ln) := ⟨B7.out.cell 1, B7.out.cell 2⟩; have K7 := Lib.hid k7; have O57 := Lib.hid o57; have RR7 := Lib.hid (R5.out.only o57 (by have := HIN.out; intro b hb; simp at hb; rcases hb with rfl | rfl <;> simp [this])); clear k7 o7 o57)
            | (go_at_call 26; refine (law0_Num _ _).mono ?_; rintro e w' ⟨rfl, rfl⟩)
            | (go_at_call 28; refine (HRN.out _ RR7.out).mono ?_; rintro e w8 ⟨rfl, r8, o8⟩; have hb8 := o8.blk B7.out (by simp); have hcells8 : w8.cell? ⟨wr.heap.size, 1, none⟩ = some (.int .i64 t) ∧ w8.cell? ⟨wr.heap.size, 2, none⟩ = some (.int .i64 ln) := ⟨hb8.cell 1, hb8.cell 2⟩; have R8 := Lib.hid r8; have O8 := Lib.hid o8; clear r8 o8 hb8))
        have f7 : Only [] w w7 := O5.out.trans O57.out (by have := HV.out; intro b hb; simp at hb; rcases hb with rfl | rfl <;> omega)
        have K2 := Lib.hid (clk_x K7.out O8.out (by simp [HIN.out.1]) (by simp [HIN.out.2.1]))
        have RR2 := Lib.hid (R8.out.ext (F' := F) (fun b hb => .inl (by simp [hb])) (Only.refl _ _) (fun b hb => by obtain ⟨_, _, _, hri⟩ := R8.out; exact hri.few b (by simp [hb])))
        have DD2 := Lib.hid (dev_x (D5.out.only O57.out (by have := HSEP.out; simp; omega) (by have := HSEP.out; simp; omega)) O8.out (by simp [HIN.out.2.2.1]) (by simp [HIN.out.2.2.2.1]))
        have VV2 := Lib.hid (dev_x (V5.out.only O57.out (by have := HSEQ.out; simp; omega) (by have := HSEQ.out; simp; omega)) O8.out (by simp [HIN.out.2.2.2.2.1]) (by simp [HIN.out.2.2.2.2.2]))
        have O2 := Lib.hid (O8.out.low f7 (Nat.le_refl _))
        obtain ⟨D2, hD2⟩ : ∃ D2, D2 = D := ⟨_, rfl⟩
        rw [← hD2] at DD2 VV2
        obtain ⟨w2, hw2⟩ : ∃ w2, w2 = w8 := ⟨_, rfl⟩
        subst hw2
        clear hD2 f7 K5 R5 D5 V5 O5 B5 K6 HNT HRN x1 x2 x3 hcells8 hcells7 B7 RR7 R8 O8 O57 K7 HW5 u1
        have HAL := Lib.hid (law9_alike F w.heap.size g ob rg C2 R2 w2 K2.out RR2.out LK2.out)
        have HLI := Lib.hid (fun w h h' => law9_lines2 dg dcb (1 + q) vg vb (1 + q) D2 w h h')
        go_wp2_with fail
        refine HAL.out.mono ?_
        rintro e wa ⟨rfl, oa⟩
        have Ka := Lib.hid (K2.out.only0 oa)
        have Ra := Lib.hid (RR2.out.only0 oa)
        have Da := Lib.hid (DD2.out.only0 oa)
        have Va := Lib.hid (VV2.out.only0 oa)
        have Oa := Lib.hid (O2.out.trans0 oa)
        clear oa HAL K2 RR2 DD2 VV2 O2
        go_wp2_with fail
        refine (HLI.out wa Da.out Va.out).mono ?_
        rintro e wb ⟨rfl, ob'⟩
        have Kb := Lib.hid (Ka.out.only0 ob')
        have Rb := Lib.hid (Ra.out.only0 ob')
        have Db := Lib.hid (Da.out.only0 ob')
        have Vb := Lib.hid (Va.out.only0 ob')
        have Ob := Lib.hid (Oa.out.trans0 ob')
        clear ob' HLI Ka Ra Da Va Oa
        go_wp2
        go_roundw
        · exact ⟨j + 1, C2, R2, D2, by omega, by simp, Kb.out, Rb.out, Db.out, Vb.out, LK2.out, FW2.out, NW2.out, Ob.out⟩
        · simp [intOf]
          omega
      by_cases k1 : kd = 1
      · subst k1
        clear k0
        have u1 : (beginNo C != beginNo C) = false := by simp
        have hok := K5.out.ok
        have hlo := hok.lo
        have hnn : 0 ≤ C.now := by
          by_cases p0 : C.phase = 0
          · have := hok.idle p0; omega
          · have := hok.busy p0; omega
        have HB := Lib.hid (clk_Begin_any g ob C w5 K5.out (by have := NW.out; omega))
        have hrn := fun u h => ref9_Begin_any (wr.heap.size :: F) w.heap.size rg R u h (by rw [LK.out.len]; exact hok.owed4) (by rw [LK.out.len]; exact hok.owed1) (fun l hl => by have := FW.out l hl; omega) (by rw [LK.out.now]; have := NW.out; omega)
        have LK2 := Lib.hid (like_begin LK.out)
        have FW2 : Hid (∀ l ∈ (beginRT R).notes, l.length ≤ j + 1) := Lib.hid (fun l hl => by have := beginRT_few FW.out l hl; omega)
        have NW2 := Lib.hid (show (beginT C).now ≤ (d0 : Int) + 1 + ((j + 1 : Nat) : Int) by have := beginT_bd NW.out; omega)
        simp only [beginNo_like LK.out] at hrn
        have HRN := Lib.hid hrn
        clear hrn hok hlo hnn
        generalize beginNo C = z at *
        generalize beginT C = C2 at *
        generalize beginRT R = R2 at *
        clear hcells5
        go_wp2_with fail
        rw [← HW5.out]
        refine HB.out.mono ?_
        rintro e w7 ⟨rfl, k7, o7⟩
        have K7 := Lib.hid k7
        have O57 := Lib.hid o7
        have RR7 := Lib.hid (R5.out.only o7 (by have := HIN.out; intro b hb; simp at hb; rcases hb with rfl | rfl <;> simp [this]))
        clear k7 o7 HB
        go_wp2_with fail
        refine (law0_Num _ _).mono ?_
        rintro e w' ⟨rfl, rfl⟩
        go_wp2_with fail
        refine (HRN.out _ RR7.out).mono ?_
        rintro e w8 ⟨rfl, r8, o8⟩
        have R8 := Lib.hid r8
        have O8 := Lib.hid o8
        clear r8 o8
        have f7 : Only [] w w7 := O5.out.trans O57.out (by have := HV.out; intro b hb; simp at hb; rcases hb with rfl | rfl <;> omega)
        have K2 := Lib.hid (clk_x K7.out O8.out (by simp [HIN.out.1]) (by simp [HIN.out.2.1]))
        have RR2 := Lib.hid (R8.out.ext (F' := F) (fun b hb => .inl (by simp [hb])) (Only.refl _ _) (fun b hb => by obtain ⟨_, _, _, hri⟩ := R8.out; exact hri.few b (by simp [hb])))
        have DD2 := Lib.hid (dev_x (D5.out.only O57.out (by have := HSEP.out; simp; omega) (by have := HSEP.out; simp; omega)) O8.out (by simp [HIN.out.2.2.1]) (by simp [HIN.out.2.2.2.1]))
        have VV2 := Lib.hid (dev_x (V5.out.only O57.out (by have := HSEQ.out; simp; omega) (by have := HSEQ.out; simp; omega)) O8.out (by simp [HIN.out.2.2.2.2.1]) (by simp [HIN.out.2.2.2.2.2]))
        have O2 := Lib.hid (O8.out.low f7 (Nat.le_refl _))
        obtain ⟨D2, hD2⟩ : ∃ D2, D2 = D := ⟨_, rfl⟩
        rw [← hD2] at DD2 VV2
        obtain ⟨w2, hw2⟩ : ∃ w2, w2 = w8 := ⟨_, rfl⟩
        subst hw2
        clear hD2 f7 K5 R5 D5 V5 O5 B5 HRN RR7 R8 O8 O57 K7 HW5 u1
        have HAL := Lib.hid (law9_alike F w.heap.size g ob rg C2 R2 w2 K2.out RR2.out LK2.out)
        have HLI := Lib.hid (fun w h h' => law9_lines2 dg dcb (1 + q) vg vb (1 + q) D2 w h h')
        go_wp2_with fail
        refine HAL.out.mono ?_
        rintro e wa ⟨rfl, oa⟩
        have Ka := Lib.hid (K2.out.only0 oa)
        have Ra := Lib.hid (RR2.out.only0 oa)
        have Da := Lib.hid (DD2.out.only0 oa)
        have Va := Lib.hid (VV2.out.only0 oa)
        have Oa := Lib.hid (O2.out.trans0 oa)
        clear oa HAL K2 RR2 DD2 VV2 O2
        go_wp2_with fail
        refine (HLI.out wa Da.out Va.out).mono ?_
        rintro e wb ⟨rfl, ob'⟩
        have Kb := Lib.hid (Ka.out.only0 ob')
        have Rb := Lib.hid (Ra.out.only0 ob')
        have Db := Lib.hid (Da.out.only0 ob')
        have Vb := Lib.hid (Va.out.only0 ob')
        have Ob := Lib.hid (Oa.out.trans0 ob')
        clear ob' HLI Ka Ra Da Va Oa
        go_wp2
        go_roundw
        · exact ⟨j + 1, C2, R2, D2, by omega, by simp, Kb.out, Rb.out, Db.out, Vb.out, LK2.out, FW2.out, NW2.out, Ob.out⟩
        · simp [intOf]
          omega
      by_cases k2 : kd = 2
      · subst k2
        clear k0 k1
        have u1 : (stepA C != stepA C) = false := by simp
        have u2 : (stepE C != stepE C) = false := by simp
        have HS := Lib.hid (clk_Step g ob dg dcb (1 + q) C D w5 K5.out D5.out HSEP.out)
        have HOK := Lib.hid K5.out.ok
        have HRS := Lib.hid (fun u h hd => ref9_Step F0 w.heap.size rg vg vb (1 + q) C R D u LK.out HOK.out h hd ⟨HV.out.1, HV.out.2.1⟩ HNIN.out)
        have FW2' := Lib.hid (notes_more FW.out)
        have NW2 := Lib.hid (show (stepC C).now ≤ (d0 : Int) + 1 + ((j + 1 : Nat) : Int) by have := stepC_bd NW.out; omega)
        clear hcells5
        generalize stepA C = za at *
        generalize stepE C = ze at *
        generalize stepC C = C2 at *
        generalize stepD C D = D2 at *
        go_wp2_with fail
        rw [← HW5.out]
        refine HS.out.mono ?_
        rintro e w7 ⟨rfl, k7, d7, o7⟩
        have K7 := Lib.hid k7
        have D7 := Lib.hid d7
        have O57 := Lib.hid o7
        have r7 := R5.out.only o7 (by have := HIN.out; intro b hb; simp at hb; rcases hb with rfl | rfl | rfl <;> simp [this])
        have rr7 := r7.ext (F' := F) (fun b hb => .inl (by simp [hb])) (Only.refl _ _) (fun b hb => by obtain ⟨_, _, _, hri⟩ := r7; exact hri.few b (by simp [hb]))
        rw [HFF.out] at rr7
        have RR7 := Lib.hid rr7
        have V7 := Lib.hid (V5.out.only o7 (by have := HSEQ.out; simp; omega) (by have := HSEQ.out; simp; omega))
        clear k7 d7 o7 r7 rr7 HS
        go_wp2_with fail
        refine (HRS.out _ RR7.out V7.out).mono ?_
        rintro e w8 ⟨R2, rfl, r8, lk2, hnt, v8, o8⟩
        rw [← hnt] at FW2'
        have FW2 := FW2'
        rw [← HFF.out] at r8
        have LK2 := Lib.hid lk2
        have f7 : Only [] w w7 := O5.out.trans O57.out (by have := HV.out; intro b hb; simp at hb; rcases hb with rfl | rfl | rfl <;> omega)
        have K2 := Lib.hid (clk_x K7.out o8 HIN0.out.1 HIN0.out.2.1)
        have RR2 := Lib.hid r8
        have DD2 := Lib.hid (dev_x D7.out o8 HIN0.out.2.2.1 HIN0.out.2.2.2)
        have VV2 := Lib.hid v8
        have O2 := Lib.hid (o8.low f7 (Nat.le_refl _))
        clear lk2 hnt v8 o8 r8 FW2'
        go_wp2_with (fail)
        go_wp2_with fail
        refine (law0_Num _ _).mono ?_
        rintro e w' ⟨rfl, rfl⟩
        obtain ⟨w2, hw2⟩ : ∃ w2, w2 = w8 := ⟨_, rfl⟩
        subst hw2
        clear f7 K5 R5 D5 V5 O5 B5 HRS RR7 O57 K7 D7 V7 HW5 u1 u2
        have HAL := Lib.hid (law9_alike F w.heap.size g ob rg C2 R2 w2 K2.out RR2.out LK2.out)
        have HLI := Lib.hid (fun w h h' => law9_lines2 dg dcb (1 + q) vg vb (1 + q) D2 w h h')
        go_wp2_with fail
        refine HAL.out.mono ?_
        rintro e wa ⟨rfl, oa⟩
        have Ka := Lib.hid (K2.out.only0 oa)
        have Ra := Lib.hid (RR2.out.only0 oa)
        have Da := Lib.hid (DD2.out.only0 oa)
        have Va := Lib.hid (VV2.out.only0 oa)
        have Oa := Lib.hid (O2.out.trans0 oa)
        clear oa HAL K2 RR2 DD2 VV2 O2
        go_wp2_with fail
        refine (HLI.out wa Da.out Va.out).mono ?_
        rintro e wb ⟨rfl, ob'⟩
        have Kb := Lib.hid (Ka.out.only0 ob')
        have Rb := Lib.hid (Ra.out.only0 ob')
        have Db := Lib.hid (Da.out.only0 ob')
        have Vb := Lib.hid (Va.out.only0 ob')
        have Ob := Lib.hid (Oa.out.trans0 ob')
        clear ob' HLI Ka Ra Da Va Oa
        go_wp2
        go_roundw
        · exact ⟨j + 1, C2, R2, D2, by omega, by simp, Kb.out, Rb.out, Db.out, Vb.out, LK2.out, FW2.out, NW2.out, Ob.out⟩
        · simp [intOf]
          omega
      by_cases k3 : kd = 3
      · subst k3
        clear k0 k1 k2
        obtain ⟨y, hy⟩ := u8_of' by_
        obtain ⟨x1, x2, x3⟩ := hcells5
        have oa : Only [] w5 (w5.alloc (.cells ([y].map B).toArray 5)) := (Only.refl _ _).alloc _
        have hbs := bs_new w5 5 [y]
        have hsz5 : w5.heap.size = wr.heap.size + 1 := by rw [HW5.out]; simp
        have hst := nvm_Store_any dg dcb (1 + q) D ln 3 (some ⟨w5.heap.size, 0, none⟩) 1 1 [y] _ (D5.out.only0 oa) hbs (by unfold maxLen; omega)
        rw [hsz5] at hst
        have HST := Lib.hid hst
        clear hst hsz5
        have OA := Lib.hid oa
        have HRT := Lib.hid (fun u (hd : RefAt u vg vb (1 + q) D) => ref3_Store_any vg vb (1 + q) D ln 3 (some ⟨u.heap.size, 0, none⟩) 1 1 [y] (u.alloc (.cells ([y].map B).toArray 5)) (hd.only0 ((Only.refl _ _).alloc _)) (bs_new u 5 [y]) (by unfold maxLen; omega) (fun _ b off s e => by cases e; have := hd.lt2; omega) (by omega))
        clear oa hbs
        generalize store1 D ln 3 [y] = D2 at *
        go_wp2_with fail
        rw [← HW5.out]
        refine HST.out.mono ?_
        rintro e w7 ⟨rfl, d7, o7⟩
        have o57 := (OA.out.mono (T := [dg, dcb]) (by simp)).trans o7 (by simp)
        have b7 := B5.out.only o57 (by have := HXN.out; simp; omega)
        have z2 : w7.cell? ⟨wr.heap.size, 2, none⟩ = some (.int .i64 ln) := b7.cell 2
        have z3 : w7.cell? ⟨wr.heap.size, 3, none⟩ = some (.int .i64 by_) := b7.cell 3
        have DD7 := Lib.hid d7
        have K7 := Lib.hid (K5.out.only o57 (by have := HSEP.out; simp; omega) (by have := HSEP.out; simp; omega))
        have V7 := Lib.hid (V5.out.only o57 (by have := HSEQ.out; simp; omega) (by have := HSEQ.out; simp; omega))
        have r7 := R5.out.only o57 (by have := HIN.out; intro b hb; simp at hb; rcases hb with rfl | rfl <;> simp [this])
        have R7 := Lib.hid (r7.ext (F' := F) (fun b hb => .inl (by simp [hb])) (Only.refl _ _) (fun b hb => by obtain ⟨_, _, _, hri⟩ := r7; exact hri.few b (by simp [hb])))
        have O7 := Lib.hid (O5.out.trans o57 (by have := HV.out; intro b hb; simp at hb; rcases hb with rfl | rfl <;> omega))
        clear d7 o7 o57 b7 r7 HST x1 x2 x3
        go_wp2_with fail
        refine (HRT.out _ V7.out).mono ?_
        rintro e w2 ⟨rfl, v2, o2⟩
        have o72 := ((Only.refl [vg, vb] w7).alloc (.cells ([y].map B).toArray 5)).trans o2 (by simp)
        have K2 := Lib.hid (K7.out.only o72 (by have := HSEQ.out; simp; omega) (by have := HSEQ.out; simp; omega))
        have RR2 := Lib.hid (R7.out.only o72 (by have := HIN.out; intro b hb; simp at hb; rcases hb with rfl | rfl <;> simp [this]))
        have DD2 := Lib.hid (DD7.out.only o72 (by have := HSEQ.out; simp; omega) (by have := HSEQ.out; simp; omega))
        have VV2 := Lib.hid v2
        have O2 := Lib.hid (O7.out.trans o72 (by have := HV.out; intro b hb; simp at hb; rcases hb with rfl | rfl <;> omega))
        have FW2 := Lib.hid (notes_more FW.out)
        have NW2 := Lib.hid (show C.now ≤ (d0 : Int) + 1 + ((j + 1 : Nat) : Int) by have := NW.out; omega)
        have LK2 := LK
        obtain ⟨C2, hC2⟩ : ∃ C2, C2 = C := ⟨_, rfl⟩
        obtain ⟨R2, hR2⟩ : ∃ R2, R2 = R := ⟨_, rfl⟩
        rw [← hC2] at K2 NW2 LK2
        rw [← hR2] at RR2 FW2 LK2
        clear hC2 hR2 v2 o2 o72 K7 R7 DD7 V7 O7 K5 R5 D5 V5 O5 B5 HRT OA HW5 z2 z3 hy
        have HAL := Lib.hid (law9_alike F w.heap.size g ob rg C2 R2 w2 K2.out RR2.out LK2.out)
        have HLI := Lib.hid (fun w h h' => law9_lines2 dg dcb (1 + q) vg vb (1 + q) D2 w h h')
        go_wp2_with fail
        refine HAL.out.mono ?_
        rintro e wa ⟨rfl, oa⟩
        have Ka := Lib.hid (K2.out.only0 oa)
        have Ra := Lib.hid (RR2.out.only0 oa)
        have Da := Lib.hid (DD2.out.only0 oa)
        have Va := Lib.hid (VV2.out.only0 oa)
        have Oa := Lib.hid (O2.out.trans0 oa)
        clear oa HAL K2 RR2 DD2 VV2 O2
        go_wp2_with fail
        refine (HLI.out wa Da.out Va.out).mono ?_
        rintro e wb ⟨rfl, ob'⟩
        have Kb := Lib.hid (Ka.out.only0 ob')
        have Rb := Lib.hid (Ra.out.only0 ob')
        have Db := Lib.hid (Da.out.only0 ob')
        have Vb := Lib.hid (Va.out.only0 ob')
        have Ob := Lib.hid (Oa.out.trans0 ob')
        clear ob' HLI Ka Ra Da Va Oa
        go_wp2
        go_roundw
        · exact ⟨j + 1, C2, R2, D2, by omega, by simp, Kb.out, Rb.out, Db.out, Vb.out, LK2.out, FW2.out, NW2.out, Ob.out⟩
        · simp [intOf]
          omega
      by_cases k4 : kd = 4
      · subst k4
        clear k0 k1 k2 k3
        obtain ⟨x1, x2, x3⟩ := hcells5
        have HST := Lib.hid (nvm_Back_any dg dcb (1 + q) D ln w5 D5.out)
        have HRT := Lib.hid (fun u (hd : RefAt u vg vb (1 + q) D) => ref3_Back_any vg vb (1 + q) D ln u hd)
        generalize back1 D ln = D2 at *
        go_wp2_with fail
        rw [← HW5.out]
        refine HST.out.mono ?_
        rintro e w7 ⟨rfl, d7, o57⟩
        have b7 := B5.out.only o57 (by have := HXN.out; simp; omega)
        have z2 : w7.cell? ⟨wr.heap.size, 2, none⟩ = some (.int .i64 ln) := b7.cell 2
        have DD7 := Lib.hid d7
        have K7 := Lib.hid (K5.out.only o57 (by have := HSEP.out; simp; omega) (by have := HSEP.out; simp; omega))
        have V7 := Lib.hid (V5.out.only o57 (by have := HSEQ.out; simp; omega) (by have := HSEQ.out; simp; omega))
        have r7 := R5.out.only o57 (by have := HIN.out; intro b hb; simp at hb; rcases hb with rfl | rfl <;> simp [this])
        have R7 := Lib.hid (r7.ext (F' := F) (fun b hb => .inl (by simp [hb])) (Only.refl _ _) (fun b hb => by obtain ⟨_, _, _, hri⟩ := r7; exact hri.few b (by simp [hb])))
        have O7 := Lib.hid (O5.out.trans o57 (by have := HV.out; intro b hb; simp at hb; rcases hb with rfl | rfl <;> omega))
        clear d7 o57 b7 r7 HST x1 x2 x3
        go_wp2_with fail
        refine (HRT.out _ V7.out).mono ?_
        rintro e w2 ⟨rfl, v2, o72⟩
        have K2 := Lib.hid (K7.out.only o72 (by have := HSEQ.out; simp; omega) (by have := HSEQ.out; simp; omega))
        have RR2 := Lib.hid (R7.out.only o72 (by have := HIN.out; intro b hb; simp at hb; rcases hb with rfl | rfl <;> simp [this]))
        have DD2 := Lib.hid (DD7.out.only o72 (by have := HSEQ.out; simp; omega) (by have := HSEQ.out; simp; omega))
        have VV2 := Lib.hid v2
        have O2 := Lib.hid (O7.out.trans o72 (by have := HV.out; intro b hb; simp at hb; rcases hb with rfl | rfl <;> omega))
        have FW2 := Lib.hid (notes_more FW.out)
        have NW2 := Lib.hid (show C.now ≤ (d0 : Int) + 1 + ((j + 1 : Nat) : Int) by have := NW.out; omega)
        have LK2 := LK
        obtain ⟨C2, hC2⟩ : ∃ C2, C2 = C := ⟨_, rfl⟩
        obtain ⟨R2, hR2⟩ : ∃ R2, R2 = R := ⟨_, rfl⟩
        rw [← hC2] at K2 NW2 LK2
        rw [← hR2] at RR2 FW2 LK2
        clear hC2 hR2 v2 o72 K7 R7 DD7 V7 O7 K5 R5 D5 V5 O5 B5 HRT HW5 z2
        have HAL := Lib.hid (law9_alike F w.heap.size g ob rg C2 R2 w2 K2.out RR2.out LK2.out)
        have HLI := Lib.hid (fun w h h' => law9_lines2 dg dcb (1 + q) vg vb (1 + q) D2 w h h')
        go_wp2_with fail
        refine HAL.out.mono ?_
        rintro e wa ⟨rfl, oa⟩
        have Ka := Lib.hid (K2.out.only0 oa)
        have Ra := Lib.hid (RR2.out.only0 oa)
        have Da := Lib.hid (DD2.out.only0 oa)
        have Va := Lib.hid (VV2.out.only0 oa)
        have Oa := Lib.hid (O2.out.trans0 oa)
        clear oa HAL K2 RR2 DD2 VV2 O2
        go_wp2_with fail
        refine (HLI.out wa Da.out Va.out).mono ?_
        rintro e wb ⟨rfl, ob'⟩
        have Kb := Lib.hid (Ka.out.only0 ob')
        have Rb := Lib.hid (Ra.out.only0 ob')
        have Db := Lib.hid (Da.out.only0 ob')
        have Vb := Lib.hid (Va.out.only0 ob')
        have Ob := Lib.hid (Oa.out.trans0 ob')
        clear ob' HLI Ka Ra Da Va Oa
        go_wp2
        go_roundw
        · exact ⟨j + 1, C2, R2, D2, by omega, by simp, Kb.out, Rb.out, Db.out, Vb.out, LK2.out, FW2.out, NW2.out, Ob.out⟩
        · simp [intOf]
          omega
      · have e0 : (kd == 0) = false := by simpa using k0
        have e1 : (kd == 1) = false := by simpa using k1
        have e2 : (kd == 2) = false := by simpa using k2
        have e3 : (kd == 3) = false := by simpa using k3
        have e4 : (kd == 4) = false := by simpa using k4
        clear k0 k1 k2 k3 k4
        clear hcells5
        have K2 := K5
        have DD2 := D5
        have VV2 := V5
        have O2 := O5
        have RR2 := Lib.hid (R5.out.ext (F' := F) (fun b hb => .inl (by simp [hb])) (Only.refl _ _) (fun b hb => by obtain ⟨_, _, _, hri⟩ := R5.out; exact hri.few b (by simp [hb])))
        have FW2 := Lib.hid (notes_more FW.out)
        have NW2 := Lib.hid (show C.now ≤ (d0 : Int) + 1 + ((j + 1 : Nat) : Int) by have := NW.out; omega)
        have LK2 := LK
        obtain ⟨C2, hC2⟩ : ∃ C2, C2 = C := ⟨_, rfl⟩
        obtain ⟨R2, hR2⟩ : ∃ R2, R2 = R := ⟨_, rfl⟩
        obtain ⟨D2, hD2⟩ : ∃ D2, D2 = D := ⟨_, rfl⟩
        rw [← hC2] at K2 NW2 LK2
        rw [← hR2] at RR2 FW2 LK2
        rw [← hD2] at DD2 VV2
        go_wp2_with fail
        rw [← HW5.out]
        obtain ⟨w2, hw2⟩ : ∃ w2, w2 = w5 := ⟨_, rfl⟩
        rw [← hw2] at K2 RR2 DD2 VV2 O2 ⊢
        clear hC2 hR2 hD2 hw2 K5 R5 D5 V5 O5 B5 HW5
        have HAL := Lib.hid (law9_alike F w.heap.size g ob rg C2 R2 w2 K2.out RR2.out LK2.out)
        have HLI := Lib.hid (fun w h h' => law9_lines2 dg dcb (1 + q) vg vb (1 + q) D2 w h h')
        go_wp2_with fail
        refine HAL.out.mono ?_
        rintro e wa ⟨rfl, oa⟩
        have Ka := Lib.hid (K2.out.only0 oa)
        have Ra := Lib.hid (RR2.out.only0 oa)
        have Da := Lib.hid (DD2.out.only0 oa)
        have Va := Lib.hid (VV2.out.only0 oa)
        have Oa := Lib.hid (O2.out.trans0 oa)
        clear oa HAL K2 RR2 DD2 VV2 O2
        go_wp2_with fail
        refine (HLI.out wa Da.out Va.out).mono ?_
        rintro e wb ⟨rfl, ob'⟩
        have Kb := Lib.hid (Ka.out.only0 ob')
        have Rb := Lib.hid (Ra.out.only0 ob')
        have Db := Lib.hid (Da.out.only0 ob')
        have Vb := Lib.hid (Va.out.only0 ob')
        have Ob := Lib.hid (Oa.out.trans0 ob')
        clear ob' HLI Ka Ra Da Va Oa
        go_wp2
        go_roundw
        · exact ⟨j + 1, C2, R2, D2, by omega, by simp, Kb.out, Rb.out, Db.out, Vb.out, LK2.out, FW2.out, NW2.out, Ob.out⟩
        · simp [intOf]
          omega
    · obtain rfl : j = n := by omega
      have y3 : decide ((j : Int) < (j : Int)) = false := by simp
      have HAL := Lib.hid (law9_alike F w.heap.size g ob rg C R wr KK.out RR.out LK.out)
      go_wp2_with fail
      refine (clk_Step_nil (some ⟨g, 0, none⟩) wr).mono ?_
      rintro e w' ⟨rfl, rfl⟩
      go_wp2_with fail
      refine HAL.out.mono ?_
      rintro e wa ⟨rfl, oa⟩
      have OA := Lib.hid (ON.out.trans0 oa)
      clear oa
      go_wp2_with fail
      refine (law9_awake _).mono ?_
      rintro e wz ⟨rfl, oz⟩
      have OZ := Lib.hid (OA.out.trans0 oz)
      clear oz
      go_wp2
      go_ret
      exact ⟨rfl, OZ.out⟩
end Go.Proofs.Ytecdalmnndalgaa
