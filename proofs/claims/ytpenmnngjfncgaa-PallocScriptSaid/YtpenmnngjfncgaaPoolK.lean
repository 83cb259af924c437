/- Lists of taken blocks in memory; SameTaken of two that are one. -/
import Derived.Test.YtpenmnngjfncgaaPoolJ
import Derived.Test.YtpenmnngjfncgaaPoolQ
import Derived.Test.YtpenmnngjfncgaaEqF
namespace Go.Proofs.FuPool
open Go.RowKit Go.Proofs.FuMem Go.Proofs.FuClass
/-- a list of taken blocks as a slice reads it -/
def Ts (w : World) (A : Option Addr) (n : Nat) (l : List (Int × Int)) : Prop :=
  l.length = n ∧ (n = 0 ∨ ∃ b off, A = some ⟨b, off, none⟩ ∧ ∀ k x, l[k]? = some x → w.cell? ⟨b, off + k * 2, none⟩ = some (.int .i64 x.1) ∧ w.cell? ⟨b, off + k * 2 + 1, none⟩ = some (.int .i64 x.2))
theorem Ts.only {w w' : World} {S : List Nat} {A : Option Addr} {n : Nat} {l : List (Int × Int)} (h : Ts w A n l) (o : Only S w w') (hs : ∀ b off q, A = some ⟨b, off, q⟩ → b ∉ S) : Ts w' A n l := by
  obtain ⟨h1, h2⟩ := h
  refine ⟨h1, ?_⟩
  rcases h2 with h2 | ⟨b, off, e, h2⟩
  · exact .inl h2
  · refine .inr ⟨b, off, e, fun k x hk => ?_⟩
    obtain ⟨c0, c1⟩ := h2 k x hk
    have hb := lt_of_cell c0
    exact ⟨(cell_only o hb (hs b off none e)).trans c0, (cell_only o hb (hs b off none e)).trans c1⟩
theorem Ts.only0 {w w' : World} {A : Option Addr} {n : Nat} {l : List (Int × Int)} (h : Ts w A n l) (o : Only [] w w') : Ts w' A n l := h.only o (by simp)
end Go.Proofs.FuPool
namespace Go.Proofs.Ytpenmnngjfncgaa
open Go.RowKit Go.Proofs.FuMem Go.Proofs.FuClass Go.Proofs.FuPool Go.Proofs.FuEq
set_option maxRecDepth 100000
theorem tcells_get (l : List (Int × Int)) (k : Nat) (x : Int × Int) (h : l[k]? = some x) : (tcells l)[k * 2]? = some (.int .i64 x.1) ∧ (tcells l)[k * 2 + 1]? = some (.int .i64 x.2) := by
  induction l generalizing k with
  | nil => simp at h
  | cons a l ih =>
    cases k with
    | zero =>
      simp at h
      subst h
      exact ⟨rfl, rfl⟩
    | succ k =>
      have := ih k (by simpa using h)
      rw [show (k + 1) * 2 = k * 2 + 1 + 1 by omega]
      exact this
theorem ts_own {w : World} {base n c : Nat} {A : Option Addr} {l : List (Int × Int)} {e : TypeId} (h : w.ownsRow base e 2 (.slice A n c) n (tcells l)) (hl : l.length = n) : Ts w A n l := by
  refine ⟨hl, ?_⟩
  by_cases hn : n = 0
  · exact .inl hn
  · have h2 := h
    rcases h2.2 with ⟨_, h0⟩ | ⟨g, cap, cur, hv, _⟩
    · exact absurd h0 hn
    · cases hv
      refine .inr ⟨g, 0, rfl, fun k x hk => ?_⟩
      have hkl := (List.getElem?_eq_some_iff.1 hk).1
      obtain ⟨t0, t1⟩ := tcells_get l k x hk
      rw [Nat.zero_add]
      exact ⟨(World.ownsRow.cellAt h (k * 2) (by omega)).trans t0, (World.ownsRow.cellAt h (k * 2 + 1) (by omega)).trans t1⟩
abbrev takenV (a b : Int) : Value := .agg #[.int .i64 a, .int .i64 b]
theorem taken_equal (a b c d : Int) (w : World) :
    (Op.equalIn 10000 32 (takenV a b) (takenV c d)).run Try.prog w = .ok (a == c && (b == d)) w := by
  rw [run_equalIn_struct w 9999 32 _ _ (by kernel_rfl) (by kernel_rfl)]
  have hf : (Try.prog.fieldsOf 32).toList.map (fun f => (f.type, f.offset, decide (f.name = "_"))) = [(3, 0, false), (3, 1, false)] := by kernel_rfl
  generalize (Try.prog.fieldsOf 32).toList = fs at *
  obtain ⟨f0, f1, rfl⟩ : ∃ f0 f1, fs = [f0, f1] := by
    have hl := congrArg List.length hf
    rw [List.length_map] at hl
    rcases fs with _ | ⟨f0, _ | ⟨f1, _ | ⟨f2, fs⟩⟩⟩
    · simp at hl
    · simp at hl
    · exact ⟨_, _, rfl⟩
    · simp at hl
  simp only [List.map_cons, List.map_nil, List.cons.injEq, Prod.mk.injEq, decide_eq_false_iff_not, and_true] at hf
  obtain ⟨⟨t0, o0, n0⟩, ⟨t1', o1, n1⟩⟩ := hf
  have hpi : ∀ (xs : Array Value) (k : Nat) (v : Value), xs[k]? = some v → (part 3 xs k).run Try.prog w = .ok v w := fun xs k v h => by
    simp [part, isAgg, run_underlying Try.underlying3, h]
  have hqi : ∀ a b : Int, (Op.equalIn 9999 3 (.int .i64 a) (.int .i64 b)).run Try.prog w = .ok (a == b) w := fun a b => run_equalIn_int (P := Try.prog) w 9998 3 .i64 .i64 a b Try.underlying3
  have key := eqFields_cons (P := Try.prog) 9999 #[.int .i64 a, .int .i64 b] #[.int .i64 c, .int .i64 d]
  have := key f0 _ _ _ _ w n0 (by rw [t0, o0]; exact hpi _ 0 _ rfl) (by rw [t0, o0]; exact hpi _ 0 _ rfl) (by rw [t0]; exact hqi _ _) _
    (key f1 _ _ _ _ w n1 (by rw [t1', o1]; exact hpi _ 1 _ rfl) (by rw [t1', o1]; exact hpi _ 1 _ rfl) (by rw [t1']; exact hqi _ _) _ (eqFields_nil _ _ _ w))
  rw [this]
  simp
theorem neq_taken (a b : Int) (w : World) :
    (binOp .neq 32 (takenV a b) (takenV a b)).run Try.prog w = .ok (.bool false) w := by
  rw [run_neq_struct, taken_equal]
  simp
theorem takenGuard : Try.prog.eqGuardType Try.prog.depth 32 = false := by kernel_rfl
set_option maxHeartbeats 800000 in
theorem law0_SameTaken (A A' : Option Addr) (n c d : Nat) (l : List (Int × Int)) (w : World) (h : Ts w A n l) (h' : Ts w A' n l) (hn : n ≤ 1000000) :
    Calls Try.prog 21 #[.slice A n c, .slice A' n d] w fun e w' => e = .returned (.bool true) ∧ Only [] w w' := by
  have H1 := Lib.hid h
  have H2 := Lib.hid h'
  have HL := Lib.hid h.1
  clear h h'
  go_enter Try.func21, Try.ntmps21
  go_wp2
  go_loopw [5] (fun i wr => ∃ j : Nat, j ≤ n ∧ i = .int .i64 j ∧ Only [] w wr) (fun i _ => n - (intOf i).toNat)
  case atStart => exact ⟨0, Nat.zero_le _, rfl, Only.refl _ _⟩
  case round =>
    obtain ⟨j, hj, rfl, on⟩ := hrel
    by_cases hlt : j < n
    · have y1 : (0 : Int) ≤ (j : Int) := by omega
      have y2 : (j : Int) < (n : Int) := by omega
      have y3 : decide ((j : Int) < (n : Int)) = true := by rw [decide_eq_true_eq]; omega
      obtain ⟨x, hx⟩ : ∃ x, l[j]? = some x := ⟨_, List.getElem?_eq_getElem (by have := HL.out; omega)⟩
      rcases (H1.out.only0 on).2 with h0 | ⟨b1, o1, e1, c1⟩
      · omega
      rcases (H2.out.only0 on).2 with h0 | ⟨b2, o2, e2, c2⟩
      · omega
      obtain ⟨x0, x1⟩ := c1 j x hx
      obtain ⟨y0, y1'⟩ := c2 j x hx
      obtain ⟨a, b⟩ := x
      simp only at x0 x1 y0 y1'
      subst e1
      subst e2
      have hq := fun w => neq_taken a b w
      have hg := fun (w : World) (x y : Operand) => run_eqGuard_agg (P := Try.prog) w .neq 32 x y #[.int .i64 a, .int .i64 b] #[.int .i64 a, .int .i64 b] takenGuard
      have ON := Lib.hid on
      clear c1 c2 hx on
      go_wp2
      go_quiet (fail)
      go_wp2
      go_roundw
      · exact ⟨j + 1, by omega, by simp, ON.out.drewN _⟩
      · simp [intOf]
        omega
    · obtain rfl : j = n := by omega
      have y3 : decide ((j : Int) < (j : Int)) = false := by simp
      have ON := Lib.hid on
      clear on
      go_wp2
      go_ret
      exact ⟨rfl, ON.out⟩
end Go.Proofs.Ytpenmnngjfncgaa
