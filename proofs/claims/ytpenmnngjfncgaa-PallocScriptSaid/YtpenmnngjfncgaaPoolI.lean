/- Acts of law 7, and what a pool is behind them. -/
import Derived.Test.YtpenmnngjfncgaaPoolH
import Derived.Test.YtpenmnngjfncgaaTable
import Derived.Test.YtpenmnngjfncgaaLend
import Derived.Deep.RegionHeld3
namespace Go.Proofs.FuPool
open Go.RowKit Go.Proofs.FuMem Go.Proofs.FuClass
/-- an act: what it does, a line, a class -/
abbrev Deed := Int × Int × Int
def stepP (P : Pool) (x : Deed) : Pool := if x.1 = 0 then takeP P x.2.2 else if x.1 = 1 then giveP P x.2.1 else if x.1 = 2 then markP P x.2.1 x.2.2 else P
def playP (P : Pool) (xs : List Deed) : Pool := xs.foldl stepP P
theorem stepP_ok {P : Pool} (hP : Ok P) (hl : P.length ≤ 32) (x : Deed) : Ok (stepP P x) := by
  unfold stepP
  split
  · exact takeP_ok hP
  · split
    · exact giveP_ok hP hl _
    · split
      · exact markP_ok hP _ _
      · exact hP
theorem stepP_length (P : Pool) (x : Deed) : (stepP P x).length = P.length := by
  unfold stepP
  split
  · exact takeP_length _ _
  · split
    · exact giveP_length _ _
    · split
      · exact markP_length _ _ _
      · rfl
theorem playP_ok {P : Pool} (hP : Ok P) (hl : P.length ≤ 32) (xs : List Deed) : Ok (playP P xs) ∧ (playP P xs).length = P.length := by
  induction xs generalizing P with
  | nil => exact ⟨hP, rfl⟩
  | cons x xs ih =>
    have h := ih (stepP_ok hP hl x) (by rw [stepP_length]; exact hl)
    exact ⟨h.1, h.2.trans (stepP_length P x)⟩
theorem playP_succ {P : Pool} {xs : List Deed} {j : Nat} {x : Deed} (hx : xs[j]? = some x) : playP P (xs.take (j + 1)) = stepP (playP P (xs.take j)) x := by
  rw [List.take_add_one, hx]
  unfold playP
  simp
/-- acts in memory -/
def Acts (w : World) (A : Option Addr) (n : Nat) (xs : List Deed) : Prop :=
  xs.length = n ∧ n ≤ maxLen ∧ (∀ x ∈ xs, (-9223372036854775808 ≤ x.1 ∧ x.1 ≤ 9223372036854775807) ∧ (-9223372036854775808 ≤ x.2.1 ∧ x.2.1 ≤ 9223372036854775807) ∧ (-9223372036854775808 ≤ x.2.2 ∧ x.2.2 ≤ 9223372036854775807)) ∧
    (n = 0 ∨ ∃ b off, A = some ⟨b, off, none⟩ ∧ ∀ k x, xs[k]? = some x → w.cell? ⟨b, off + k * 3, none⟩ = some (.int .i64 x.1) ∧ w.cell? ⟨b, off + k * 3 + 1, none⟩ = some (.int .i64 x.2.1) ∧ w.cell? ⟨b, off + k * 3 + 2, none⟩ = some (.int .i64 x.2.2))
theorem Acts.only0 {w w' : World} {A : Option Addr} {n : Nat} {xs : List Deed} (h : Acts w A n xs) (o : Only [] w w') : Acts w' A n xs := by
  obtain ⟨h1, h2, h3, h4⟩ := h
  refine ⟨h1, h2, h3, ?_⟩
  rcases h4 with h4 | ⟨b, off, e, h4⟩
  · exact .inl h4
  · refine .inr ⟨b, off, e, fun k x hk => ?_⟩
    obtain ⟨c0, c1, c2⟩ := h4 k x hk
    have hb := lt_of_cell c0
    exact ⟨(cell_only o hb (by simp)).trans c0, (cell_only o hb (by simp)).trans c1, (cell_only o hb (by simp)).trans c2⟩
end Go.Proofs.FuPool
namespace Go.Proofs.Ytpenmnngjfncgaa
open Go.ChangeShapes Go.WideShapes Go.ChangeAt Go.RowKit Go.Proofs.FuMem Go.Proofs.FuClass Go.Proofs.FuPool Go.Deep
set_option maxRecDepth 100000
theorem open_acts {H : Type} {enc : TypeId × Value → H} {w : World} {held : Bool} {A : Option Addr} {n c : Nat} {d : DataW H} {p : List MemPlace}
    (h : DataW.Trod enc Try.prog w 0 (fun _ => true) held 22 (.slice A n c) d p) : ∃ xs, Acts w A n xs ∧ n ≤ c := by
  obtain ⟨h1, h2, h3⟩ := open_table Try.underlying22 Try.underlying52 (by kernel_rfl) (by kernel_rfl) (by decide) h
  rcases h3 with rfl | ⟨b, off, rfl, hf⟩
  · exact ⟨[], ⟨rfl, Nat.zero_le _, by simp, .inl rfl⟩, h1⟩
  have each : ∀ i, i < n → ∃ x : Deed, ((-9223372036854775808 ≤ x.1 ∧ x.1 ≤ 9223372036854775807) ∧ (-9223372036854775808 ≤ x.2.1 ∧ x.2.1 ≤ 9223372036854775807) ∧ (-9223372036854775808 ≤ x.2.2 ∧ x.2.2 ≤ 9223372036854775807)) ∧
      w.cell? ⟨b, off + i * 3, none⟩ = some (.int .i64 x.1) ∧ w.cell? ⟨b, off + i * 3 + 1, none⟩ = some (.int .i64 x.2.1) ∧ w.cell? ⟨b, off + i * 3 + 2, none⟩ = some (.int .i64 x.2.2) := by
    intro i hi
    obtain ⟨v0, y0, m0, c0, t0⟩ := hf i hi 0 _ rfl
    obtain ⟨v1, y1, m1, c1, t1⟩ := hf i hi 1 _ rfl
    obtain ⟨v2, y2, m2, c2, t2⟩ := hf i hi 2 _ rfl
    obtain ⟨x0, rfl, b0⟩ := field_int Try.underlying3 t0
    obtain ⟨x1, rfl, b1⟩ := field_int Try.underlying3 t1
    obtain ⟨x2, rfl, b2⟩ := field_int Try.underlying3 t2
    exact ⟨(x0, x1, x2), ⟨b0, b1, b2⟩, c0, by rw [Nat.add_assoc]; exact c1, by rw [Nat.add_assoc]; exact c2⟩
  have all : ∃ xs : List Deed, xs.length = n ∧ ∀ k x, xs[k]? = some x → ((-9223372036854775808 ≤ x.1 ∧ x.1 ≤ 9223372036854775807) ∧ (-9223372036854775808 ≤ x.2.1 ∧ x.2.1 ≤ 9223372036854775807) ∧ (-9223372036854775808 ≤ x.2.2 ∧ x.2.2 ≤ 9223372036854775807)) ∧
      w.cell? ⟨b, off + k * 3, none⟩ = some (.int .i64 x.1) ∧ w.cell? ⟨b, off + k * 3 + 1, none⟩ = some (.int .i64 x.2.1) ∧ w.cell? ⟨b, off + k * 3 + 2, none⟩ = some (.int .i64 x.2.2) := by
    clear hf h h1 h2
    induction n with
    | zero => exact ⟨[], rfl, by simp⟩
    | succ n ih =>
      obtain ⟨xs, hl, hx⟩ := ih (fun i hi => each i (by omega))
      obtain ⟨x, h2⟩ := each n (by omega)
      refine ⟨xs ++ [x], by simp [hl], fun k y hk => ?_⟩
      by_cases hkl : k < xs.length
      · rw [List.getElem?_append_left hkl] at hk
        exact hx k y hk
      · rw [List.getElem?_append_right (by omega)] at hk
        have : k = n := by
          have := (List.getElem?_eq_some_iff.1 hk).1
          simp at this
          omega
        subst this
        rw [hl, Nat.sub_self] at hk
        cases hk
        exact h2
  obtain ⟨xs, hl, hx⟩ := all
  refine ⟨xs, ⟨hl, by omega, fun x hxm => ?_, .inr ⟨b, off, rfl, fun k x hk => (hx k x hk).2⟩⟩, h1⟩
  obtain ⟨k, hk, rfl⟩ := List.getElem_of_mem hxm
  exact (hx k _ (List.getElem?_eq_getElem hk)).1
set_option maxHeartbeats 1500000 in
theorem law7_played (slabs : Int) (A : Option Addr) (n c : Nat) (xs : List Deed) (w : World) (h : Acts w A n xs) (hn : n ≤ 60) :
    Calls Try.prog 12 #[.int .i64 slabs, .slice A n c] w fun e w' => ∃ g sb, e = .returned (.pointer (some ⟨g, 0, none⟩)) ∧ PoolAt w' g sb (playP (newPool (1 + low slabs 32)) xs) ∧ Only [] w w' ∧ w.heap.size ≤ g ∧ w.heap.size ≤ sb := by
  have hlo := low_lt slabs 32 (by omega)
  have HLO := Lib.hid (fun w => law0_Low slabs 32 w (by omega) (by omega))
  have HNE := Lib.hid (fun w => pool_New (1 + low slabs 32) w (by omega) (by omega))
  have HOK := Lib.hid (fun j => playP_ok (newPool_ok (1 + low slabs 32)) (show (newPool (1 + low slabs 32)).length ≤ 32 by simp [newPool]; omega) (xs.take j))
  have HLN := Lib.hid (show (newPool (1 + low slabs 32)).length ≤ 32 by simp [newPool]; omega)
  have HX := Lib.hid h
  have hxl := h.1
  have HXL := Lib.hid hxl
  generalize newPool (1 + low slabs 32) = P0 at *
  generalize low slabs 32 = m at *
  have hw1 : IntKind.i64.wrap (1 + (m : Int)) = ((1 + m : Nat) : Int) := by rw [IntKind.wrap_i64]; omega
  clear h hxl
  go_enter Try.func12, Try.ntmps12
  go_wp2_with fail
  refine (HLO.out _).mono ?_
  rintro e w' ⟨rfl, rfl⟩
  go_wp2_with fail
  rw [show (1 + (m : Int)) = ((1 + m : Nat) : Int) by omega]
  refine (HNE.out _).mono ?_
  rintro e w1 ⟨g, sb, rfl, p1, o1, hg, hs⟩
  have P1 := Lib.hid p1
  have O1 := Lib.hid o1
  clear p1 o1
  go_wp2
  go_loopw [7] (fun kv wr => ∃ j : Nat, j ≤ n ∧ kv = .int .i64 j ∧ PoolAt wr g sb (playP P0 (xs.take j)) ∧ Only [] w wr) (fun kv _ => n - (intOf kv).toNat)
  case atStart => exact ⟨0, by omega, rfl, P1.out, O1.out⟩
  case round =>
    obtain ⟨j, hj, rfl, hp, on⟩ := hrel
    by_cases hlt : j < n
    · have y1 : (0 : Int) ≤ (j : Int) := by omega
      have y2 : (j : Int) < (n : Int) := by omega
      have y3 : decide ((j : Int) < (n : Int)) = true := by rw [decide_eq_true_eq]; omega
      obtain ⟨_, _, hbd, hmem⟩ := HX.out.only0 on
      rcases hmem with h0 | ⟨b, off, hAe, hcell⟩
      · omega
      obtain ⟨x, hx⟩ : ∃ x, xs[j]? = some x := ⟨_, List.getElem?_eq_getElem (by have := HXL.out; omega)⟩
      obtain ⟨c0, c1, c2⟩ := hcell j x hx
      obtain ⟨_, hb1, hb2⟩ := hbd x (List.mem_of_getElem? hx)
      have hSU := playP_succ (P := P0) hx
      obtain ⟨hok, hokl⟩ := HOK.out j
      have hbw := lt_of_cell c0
      have hbsb : b ≠ sb := fun e => by
        rcases HX.out.2.2.2 with h0 | ⟨b', off', e', hc'⟩
        · omega
        · rw [e'] at hAe
          cases hAe
          have := lt_of_cell (hc' j x hx).1
          omega
      have HTK := Lib.hid (fun hc => pool_Take g sb (playP P0 (xs.take j)) x.2.2 wr hp hok hc)
      have HGV := Lib.hid (pool_Give g sb (playP P0 (xs.take j)) x.2.1 wr hp hok)
      have HMK := Lib.hid (fun w' (o : Only [] wr w') => pool_Mark g sb (playP P0 (xs.take j)) x.2.1 x.2.2 w' (hp.only0 o) hok hb2)
      have HHP := Lib.hid hp
      have ON := Lib.hid on
      clear hcell hbd hx hp on hok hokl
      generalize playP P0 (xs.take j) = Q at *
      obtain ⟨kd, ln, cl⟩ := x
      simp only at c0 c1 c2 hb1 hb2 HTK HGV HMK
      subst hAe
      by_cases k0 : kd = 0
      · subst k0
        have HSU := Lib.hid (hSU.trans (show stepP Q (0, ln, cl) = takeP Q cl from if_pos rfl))
        clear hSU
        go_wp2_with fail
        refine (HTK.out hb2).mono ?_
        rintro e w5 ⟨rfl, p5, o5⟩
        have P5 := Lib.hid p5
        have O5 := Lib.hid (ON.out.trans o5 (by intro b hb; simp at hb; omega))
        clear p5 o5
        go_wp2
        go_roundw
        · exact ⟨j + 1, by omega, by simp, by rw [HSU.out]; exact P5.out, O5.out⟩
        · simp [intOf]
          omega
      by_cases k1 : kd = 1
      · subst k1
        have HSU := Lib.hid (hSU.trans (show stepP Q (1, ln, cl) = giveP Q ln by unfold stepP; simp))
        clear hSU k0
        go_wp2_with fail
        refine HGV.out.mono ?_
        rintro e w5 ⟨rfl, p5, o5⟩
        have P5 := Lib.hid p5
        have O5 := Lib.hid (ON.out.trans o5 (by intro b hb; simp at hb; omega))
        clear p5 o5
        go_wp2
        go_roundw
        · exact ⟨j + 1, by omega, by simp, by rw [HSU.out]; exact P5.out, O5.out⟩
        · simp [intOf]
          omega
      by_cases k2 : kd = 2
      · subst k2
        have HSU := Lib.hid (hSU.trans (show stepP Q (2, ln, cl) = markP Q ln cl by unfold stepP; simp))
        clear hSU k0 k1
        go_wp2
        go_region_held3 (fun w' => w'.cell? ⟨b, off + j * 3 + 1, none⟩ = some (.int .i64 ln) ∧ w'.cell? ⟨b, off + j * 3 + 2, none⟩ = some (.int .i64 cl)) (go_keep) (first | (go_at_call 24; refine (HMK.out _ (Only.refl [] wr).drew).mono ?_; rintro e w5 ⟨rfl, p5, o5⟩; have P5 := Lib.hid p5; have o55 := (Only.refl [] wr).drew; have O5 := Lib.hid ((ON.out.trans0 o55).trans o5 (by intro b hb; simp at hb; omega)); have c1' : w5.cell? ⟨b, off + j * 3 + 1, none⟩ = some (.int .i64 ln) := ((cell_only o5 (by exact hbw) (by simpa using hbsb)).trans (by exact c1)); have c2' : w5.cell? ⟨b, off + j * 3 + 2, none⟩ = some (.int .i64 cl) := ((cell_only o5 (by exact hbw) (by simpa using hbsb)).trans (by exact c2)); clear p5 o5 o55))
        all_goals
          go_wp2
          go_roundw
          · exact ⟨j + 1, by omega, by simp, by rw [HSU.out]; exact P5.out, O5.out⟩
          · simp [intOf]
            omega
      have HSU := Lib.hid (hSU.trans (show stepP Q (kd, ln, cl) = Q by unfold stepP; rw [if_neg k0, if_neg k1, if_neg k2]))
      have e0 : (kd == 0) = false := by simpa using k0
      have e1 : (kd == 1) = false := by simpa using k1
      have e2 : (kd == 2) = false := by simpa using k2
      clear hSU k0 k1 k2
      go_wp2
      go_roundw
      · exact ⟨j + 1, by omega, by simp, by rw [HSU.out]; exact HHP.out, ON.out⟩
      · simp [intOf]
        omega
    · obtain rfl : j = n := by omega
      have y3 : decide ((j : Int) < (j : Int)) = false := by simp
      rw [List.take_of_length_le (by have := HXL.out; omega)] at hp
      have HP := Lib.hid hp
      have ON := Lib.hid on
      clear hp on
      go_wp2
      go_ret
      exact ⟨g, sb, rfl, HP.out, ON.out, hg, hs⟩
end Go.Proofs.Ytpenmnngjfncgaa
