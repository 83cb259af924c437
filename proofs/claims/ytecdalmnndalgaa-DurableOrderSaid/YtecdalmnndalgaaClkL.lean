/- Law 9: acts, what every program answers that is one, and the walk of DurableNone. -/
import Derived.Test.YtecdalmnndalgaaClkD
import Derived.Test.YtecdalmnndalgaaTable
import Derived.Test.YtecdalmnndalgaaLend
namespace Go.Proofs.FuClk
open Go.RowKit Go.Proofs.FuMem
/-- an act: what it does, a thread, a line, a byte -/
abbrev Deed := Int × Int × Int × Int
def bd64 (x : Int) : Prop := -9223372036854775808 ≤ x ∧ x ≤ 9223372036854775807
def Deed.bd (x : Deed) : Prop := bd64 x.1 ∧ bd64 x.2.1 ∧ bd64 x.2.2.1 ∧ bd64 x.2.2.2
def deedAt (w : World) (b o : Nat) (x : Deed) : Prop := w.cell? ⟨b, o, none⟩ = some (.int .i64 x.1) ∧ w.cell? ⟨b, o + 1, none⟩ = some (.int .i64 x.2.1) ∧ w.cell? ⟨b, o + 2, none⟩ = some (.int .i64 x.2.2.1) ∧ w.cell? ⟨b, o + 3, none⟩ = some (.int .i64 x.2.2.2)
def Acts (w : World) (A : Option Addr) (n : Nat) (xs : List Deed) : Prop :=
  xs.length = n ∧ n ≤ maxLen ∧ (∀ x ∈ xs, Deed.bd x) ∧ (n = 0 ∨ ∃ b off, A = some ⟨b, off, none⟩ ∧ ∀ k x, xs[k]? = some x → deedAt w b (off + k * 4) x)
theorem deedAt.only0 {w w' : World} {b o : Nat} {x : Deed} (h : deedAt w b o x) (ho : Only [] w w') : deedAt w' b o x := by
  obtain ⟨c0, c1, c2, c3⟩ := h
  have hb := lt_of_cell c0
  exact ⟨(cell_only ho hb (by simp)).trans c0, (cell_only ho hb (by simp)).trans c1, (cell_only ho hb (by simp)).trans c2, (cell_only ho hb (by simp)).trans c3⟩
theorem Acts.only0 {w w' : World} {A : Option Addr} {n : Nat} {xs : List Deed} (h : Acts w A n xs) (o : Only [] w w') : Acts w' A n xs := by
  obtain ⟨h1, h2, h3, h4⟩ := h
  refine ⟨h1, h2, h3, ?_⟩
  rcases h4 with h4 | ⟨b, off, e, h4⟩
  · exact .inl h4
  · exact .inr ⟨b, off, e, fun k x hk => (h4 k x hk).only0 o⟩
/-- the act at a place: its cells -/
theorem Acts.at_ {w : World} {A : Option Addr} {n : Nat} {xs : List Deed} (h : Acts w A n xs) {j : Nat} (hj : j < n) : ∃ b off x, A = some ⟨b, off, none⟩ ∧ xs[j]? = some x ∧ Deed.bd x ∧ deedAt w b (off + j * 4) x ∧ b < w.heap.size := by
  obtain ⟨h1, h2, h3, h4⟩ := h
  rcases h4 with h4 | ⟨b, off, e, h4⟩
  · omega
  · have hx : xs[j]? = some (xs[j]'(by omega)) := List.getElem?_eq_getElem (by omega)
    exact ⟨b, off, _, e, hx, h3 _ (List.getElem_mem _), h4 j _ hx, lt_of_cell (h4 j _ hx).1⟩
end Go.Proofs.FuClk
namespace Go.Proofs.Ytecdalmnndalgaa
open Go.ChangeShapes Go.WideShapes Go.ChangeAt Go.RowKit Go.Proofs.FuMem Go.Proofs.FuClk Go.Deep
set_option maxRecDepth 100000
theorem open_acts9 {H : Type} {enc : TypeId × Value → H} {w : World} {held : Bool} {A : Option Addr} {n c : Nat} {d : DataW H} {p : List MemPlace}
    (h : DataW.Trod enc Try.prog w 0 (fun _ => true) held 22 (.slice A n c) d p) : ∃ xs, Acts w A n xs ∧ n ≤ c := by
  obtain ⟨h1, h2, h3⟩ := open_table Try.underlying22 Try.underlying34 (by kernel_rfl) (by kernel_rfl) (by decide) h
  rcases h3 with rfl | ⟨b, off, rfl, hf⟩
  · exact ⟨[], ⟨rfl, Nat.zero_le _, by simp, .inl rfl⟩, h1⟩
  have each : ∀ i, i < n → ∃ x : Deed, Deed.bd x ∧ deedAt w b (off + i * 4) x := by
    intro i hi
    obtain ⟨v0, y0, m0, c0, t0⟩ := hf i hi 0 _ rfl
    obtain ⟨v1, y1, m1, c1, t1⟩ := hf i hi 1 _ rfl
    obtain ⟨v2, y2, m2, c2, t2⟩ := hf i hi 2 _ rfl
    obtain ⟨v3, y3, m3, c3, t3⟩ := hf i hi 3 _ rfl
    obtain ⟨x0, rfl, b0⟩ := field_int Try.underlying3 t0
    obtain ⟨x1, rfl, b1⟩ := field_int Try.underlying3 t1
    obtain ⟨x2, rfl, b2⟩ := field_int Try.underlying3 t2
    obtain ⟨x3, rfl, b3⟩ := field_int Try.underlying3 t3
    exact ⟨(x0, x1, x2, x3), ⟨b0, b1, b2, b3⟩, c0, by rw [Nat.add_assoc]; exact c1, by rw [Nat.add_assoc]; exact c2, by rw [Nat.add_assoc]; exact c3⟩
  have all : ∃ xs : List Deed, xs.length = n ∧ ∀ k x, xs[k]? = some x → Deed.bd x ∧ deedAt w b (off + k * 4) x := by
    clear hf h h1 h2
    induction n with
    | zero => exact ⟨[], rfl, by simp⟩
    | succ n ih =>
      obtain ⟨xs, hl, hx⟩ := ih (fun i hi => each i (by omega))
      obtain ⟨x, h2⟩ := each n (by omega)
      refine ⟨xs ++ [x], by simp [hl], fun k y hk => ?_⟩
      by_cases hkl : k < xs.length
      · rw [List.getElem?_append_left hkl] at hk
        exact hx k y hk
      · rw [List.getElem?_append_right (by omega)] at hk
        have : k = n := by
          have := (List.getElem?_eq_some_iff.1 hk).1
          simp at this
          omega
        subst this
        rw [hl, Nat.sub_self] at hk
        cases hk
        exact h2
  obtain ⟨xs, hl, hx⟩ := all
  refine ⟨xs, ⟨hl, by omega, fun x hxm => ?_, .inr ⟨b, off, rfl, fun k x hk => (hx k x hk).2⟩⟩, h1⟩
  obtain ⟨k, hk, rfl⟩ := List.getElem_of_mem hxm
  exact (hx k _ (List.getElem?_eq_getElem hk)).1
set_option maxHeartbeats 1000000 in
theorem law9_awake (w : World) : Calls Try.prog 8 #[] w fun e w' => e = .returned (.bool true) ∧ Only [] w w' := by
  have HN := Lib.hid (clk_New 1 0 w (by omega) (by omega) (by omega) (by omega))
  have c1 : (newClk 1 0).now = 1 := rfl
  have c2 : (newClk 1 0).durable = 0 := rfl
  have c3 : (newClk 1 0).owed.length = 1 := rfl
  have c5 : (newClk 1 0).phase = 0 := rfl
  generalize newClk 1 0 = C at *
  go_enter Try.func8, Try.ntmps8
  go_wp2_with fail
  refine HN.out.mono ?_
  rintro e w1 ⟨g, ob, rfl, k1, o1, h1, h2⟩
  have K1 := Lib.hid k1
  have O1 := Lib.hid o1
  clear k1 o1
  have HNO := Lib.hid (clk_Now g ob C w1 K1.out)
  have HDU := Lib.hid (clk_Durable g ob C w1 K1.out)
  have HNT := Lib.hid (clk_Note g ob C 0 5 w1 K1.out (by omega) (by omega))
  rw [c1] at HNO
  rw [c2] at HDU
  clear HN
  go_wp2_with fail
  refine (HNO.out).mono ?_
  rintro e w' ⟨rfl, rfl⟩
  go_wp2_with fail
  refine (HDU.out).mono ?_
  rintro e w' ⟨rfl, rfl⟩
  go_wp2_with fail
  refine HNT.out.mono ?_
  rintro e w2 ⟨rfl, k2, o2⟩
  have O2 := Lib.hid (O1.out.trans o2 (by intro b hb; simp at hb; omega))
  have HB := Lib.hid (clk_Begin g ob (noteC C 0 5) w2 k2 c5 (by show C.now + 1 < _; omega))
  have hn : (noteC C 0 5).now = 1 := c1
  have HN5 := Lib.hid hn
  clear k2 o2 hn
  generalize noteC C 0 5 = C5 at *
  go_wp2_with fail
  refine HB.out.mono ?_
  rintro e w3 ⟨rfl, k3, o3⟩
  have O3 := Lib.hid (O2.out.trans o3 (by intro b hb; simp at hb; omega))
  have HNO3 := Lib.hid (clk_Now g ob _ w3 k3)
  have hn3 : (beginC C5).now = 2 := by show C5.now + 1 = 2; rw [HN5.out]; omega
  rw [hn3] at HNO3
  have HBB := Lib.hid (clk_Begin_busy g ob _ w3 k3 (by show (1 : Nat) ≠ 0; omega))
  clear k3 o3 hn3
  go_wp2_with fail
  refine (HNO3.out).mono ?_
  rintro e w' ⟨rfl, rfl⟩
  go_wp2_with fail
  refine (HBB.out).mono ?_
  rintro e w' ⟨rfl, rfl⟩
  go_wp2
  go_ret
  exact ⟨rfl, O3.out⟩
set_option maxHeartbeats 1000000 in
theorem walk_DurableNone (t line : Int) (w : World) (_h1 : -9223372036854775808 ≤ t ∧ t ≤ 9223372036854775807) (_h2 : -9223372036854775808 ≤ line ∧ line ≤ 9223372036854775807) :
    Calls Try.prog 4 #[.int .i64 t, .int .i64 line] w fun e w' => e = .returned (.bool true) ∧ Only [] w w' := by
  have O0 := Lib.hid (Only.refl [] w)
  go_enter Try.func4, Try.ntmps4
  go_wp2_with fail
  refine (clk_Step_nil none w).mono ?_
  rintro e w' ⟨rfl, rfl⟩
  go_wp2_with fail
  refine (clk_Closing_nil w).mono ?_
  rintro e w' ⟨rfl, rfl⟩
  go_wp2_with fail
  refine (clk_Note_nil t line w).mono ?_
  rintro e w' ⟨rfl, rfl⟩
  go_wp2_with fail
  refine (clk_Begin_nil w).mono ?_
  rintro e w' ⟨rfl, rfl⟩
  go_wp2_with fail
  refine (clk_Now_nil w).mono ?_
  rintro e w' ⟨rfl, rfl⟩
  go_wp2_with fail
  refine (clk_Durable_nil w).mono ?_
  rintro e w' ⟨rfl, rfl⟩
  go_wp2_with fail
  refine (clk_Owed_nil w).mono ?_
  rintro e w' ⟨rfl, rfl⟩
  go_wp2_with fail
  refine (clk_Left_nil w).mono ?_
  rintro e w' ⟨rfl, rfl⟩
  go_wp2_with fail
  refine (law9_awake _).mono ?_
  rintro e wz ⟨rfl, oz⟩
  have OZ := Lib.hid (O0.out.trans0 oz)
  clear oz
  go_wp2
  go_ret
  exact ⟨rfl, OZ.out⟩
end Go.Proofs.Ytecdalmnndalgaa
