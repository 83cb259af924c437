/- The contracts of fuseeref6.Head, law 6's long. -/
import Derived.Test.YtkhfcghnodggeaaBlockH
namespace Go.Proofs.Ytkhfcghnodggeaa
open Go.RowKit Go.Proofs.FuMem Go.Proofs.FuCode Go.Proofs.FuClass Go.Proofs.FuBlock Go.Proofs.FuEq Go.Proofs.FuCrc
set_option maxRecDepth 100000
set_option maxHeartbeats 800000 in
theorem ref6_Head (A : Option Addr) (n c : Nat) (l : List UInt8) (w : World) (h : Bs w A n l) (hn : n ≤ 1000000) :
    Calls Try.prog 27 #[.slice A n c] w fun e w' => e = .returned (headOf l) ∧ Only [] w w' := by
  have hl := h.len
  have o0 : Only [] w w := Only.refl _ _
  by_cases hn64 : n = 64
  case neg =>
    have hh : headOf l = .tuple #[.int .i64 0, .int .i64 0, .bool false] := if_neg fun hx => by have := hx.1; omega
    rw [hh]
    have q0 : ¬ (n : Int) = 64 := by omega
    clear h hl hh
    go_enter Try.func27, Try.ntmps27
    go_wp2
    go_ret3
    exact ⟨rfl, o0⟩
  subst hn64
  obtain ⟨b, off, rfl, hcell⟩ := h.at_ (by omega)
  have x0 := hcell 0 (by omega)
  have x1 := hcell 1 (by omega)
  have x2 := hcell 2 (by omega)
  have g0 : l.getD 0 0 = l[0] := getD_eq (by omega)
  have g1 : l.getD 1 0 = l[1] := getD_eq (by omega)
  have g2 : l.getD 2 0 = l[2] := getD_eq (by omega)
  have hd : isHead l ↔ l[0] = 1 ∧ l[1].toNat ≤ 3 ∧ l[2].toNat ≤ 3 := by
    unfold isHead
    rw [g0, g1, g2]
    exact ⟨fun x => x.2, fun x => ⟨hl, x⟩⟩
  have hv : headOf l = if l[0] = 1 ∧ l[1].toNat ≤ 3 ∧ l[2].toNat ≤ 3 then .tuple #[.int .i64 l[1].toNat, .int .i64 l[2].toNat, .bool true] else .tuple #[.int .i64 0, .int .i64 0, .bool false] := by
    unfold headOf
    rw [g1, g2]
    by_cases e : isHead l
    · rw [if_pos e, if_pos (hd.1 e)]
    · rw [if_neg e, if_neg (fun x => e (hd.2 x))]
  have e01 : l[0] = 1 ↔ l[0].toNat = 1 := ⟨fun e => by rw [e]; rfl, fun e => UInt8.toNat.inj e⟩
  simp only [e01] at hv
  have p0 := l[0].toNat_lt
  have p1 := l[1].toNat_lt
  have p2 := l[2].toNat_lt
  rw [hv]
  generalize l[0].toNat = a at *
  generalize l[1].toNat = p at *
  generalize l[2].toNat = q at *
  clear hv hd g0 g1 g2 h hl hcell e01
  rw [Nat.add_zero] at x0
  by_cases ha : a = 1
  case neg =>
    rw [if_neg (fun x => ha x.1)]
    have q0 : ¬ (a : Int) = 1 := by omega
    go_enter Try.func27, Try.ntmps27
    go_wp2
    go_ret3
    exact ⟨rfl, o0⟩
  subst ha
  by_cases hp : p ≤ 3
  case neg =>
    rw [if_neg (fun x => hp x.2.1)]
    have q1 : decide ((3 : Int) < (p : Int)) = true := by rw [decide_eq_true_eq]; omega
    go_enter Try.func27, Try.ntmps27
    go_wp2
    go_ret3
    exact ⟨rfl, o0⟩
  have q1 : decide ((3 : Int) < (p : Int)) = false := by rw [decide_eq_false_iff_not]; omega
  by_cases hq : q ≤ 3
  case neg =>
    rw [if_neg (fun x => hq x.2.2)]
    have q2 : decide ((3 : Int) < (q : Int)) = true := by rw [decide_eq_true_eq]; omega
    go_enter Try.func27, Try.ntmps27
    go_wp2
    go_ret3
    exact ⟨rfl, o0⟩
  rw [if_pos ⟨rfl, hp, hq⟩]
  have q2 : decide ((3 : Int) < (q : Int)) = false := by rw [decide_eq_false_iff_not]; omega
  go_enter Try.func27, Try.ntmps27
  go_wp2
  go_quiet (fail)
  go_wp2
  go_ret3
  exact ⟨rfl, o0.drewN _⟩
/-- is a block more than is gone through? -/
def longB (ks vs : ByteArray) : Bool := decide (2000 < ks.size) || decide (2000 < vs.size)
theorem law6_long (cls kind : Int) (id ver ep : Nat) (ks vs : ByteArray) (w : World) :
    Calls Try.prog 11 #[blockV cls kind id ver ep ks vs] w fun e w' => e = .returned (.bool (longB ks vs)) ∧ Only [] w w' := by
  have o1 : Only [] w (w.alloc (.cells #[.int .i64 cls, .int .i64 kind, .int .u64 id, .int .u64 ver, .int .u64 ep, .string ks, .string vs] 24)) := (Only.refl _ _).alloc _
  unfold longB
  by_cases h1 : 2000 < ks.size
  · have q1 : decide ((2000 : Int) < (ks.size : Int)) = true := by rw [decide_eq_true_eq]; omega
    rw [decide_eq_true h1, Bool.true_or]
    clear h1
    go_enter Try.func11, Try.ntmps11
    go_wp2
    go_ret
    exact ⟨rfl, o1⟩
  · have q1 : decide ((2000 : Int) < (ks.size : Int)) = false := by rw [decide_eq_false_iff_not]; omega
    rw [decide_eq_false h1, Bool.false_or]
    clear h1
    have e2 : decide (2000 < vs.size) = decide ((2000 : Int) < (vs.size : Int)) := by rw [Bool.eq_iff_iff, decide_eq_true_eq, decide_eq_true_eq]; omega
    rw [e2]
    clear e2
    go_enter Try.func11, Try.ntmps11
    go_wp2
    go_ret
    exact ⟨rfl, o1⟩
theorem law6_one (w : World) :
    Calls Try.prog 34 #[] w fun e w' => e = .returned (blockV 0 1 1 1 1 ⟨#[97]⟩ ⟨#[98]⟩) ∧ Only [] w w' := by
  have o1 : Only [] w (w.alloc (.cells #[.int .i64 0, .int .i64 1, .int .u64 1, .int .u64 1, .int .u64 1, .string ⟨#[97]⟩, .string ⟨#[98]⟩] 24)) := (Only.refl _ _).alloc _
  have hb := Blk.new w 24 #[.int .i64 0, .int .i64 1, .int .u64 1, .int .u64 1, .int .u64 1, .string ⟨#[97]⟩, .string ⟨#[98]⟩]
  have O1 := Lib.hid o1
  have HB := Lib.hid hb
  clear o1 hb
  go_enter Try.func34, Try.ntmps34
  go_wp2
  exact bodyPost_ret (results_cell_row rfl _ _ w.heap.size 24 _ _ _ rfl HB.out Try.underlying24 rfl (by kernel_rfl)) rfl ⟨rfl, O1.out⟩
end Go.Proofs.Ytkhfcghnodggeaa
