/- The contracts of block.Head, block.Draft. -/
import Derived.Test.YtkhfcghnodggeaaBlockG
namespace Go.Proofs.FuBlock
open Go.Proofs.FuCode Go.Proofs.FuCrc Go.Proofs.FuClass
/-- what Head tells -/
def headOf (l : List UInt8) : Value := if isHead l then .tuple #[.int .i64 (l.getD 1 0).toNat, .int .i64 (l.getD 2 0).toNat, .bool true] else .tuple #[.int .i64 0, .int .i64 0, .bool false]
/-- a draft's head -/
def draftOf (c : Int) : List UInt8 := if span c = 0 then [] else linesTo ⟨c, 0, 0, 0, 0, [], []⟩ 64
end Go.Proofs.FuBlock
namespace Go.Proofs.Ytkhfcghnodggeaa
open Go.RowKit Go.Proofs.FuMem Go.Proofs.FuCode Go.Proofs.FuClass Go.Proofs.FuBlock Go.Proofs.FuEq Go.Proofs.FuCrc
set_option maxRecDepth 100000
set_option maxHeartbeats 800000 in
theorem block_Head (A : Option Addr) (n c : Nat) (l : List UInt8) (w : World) (h : Bs w A n l) (hn : n ≤ 1000000) :
    Calls Try.prog 24 #[.slice A n c] w fun e w' => e = .returned (headOf l) ∧ Only [] w w' := by
  have hl := h.len
  have o0 : Only [] w w := Only.refl _ _
  by_cases hn64 : n = 64
  case neg =>
    have hh : headOf l = .tuple #[.int .i64 0, .int .i64 0, .bool false] := if_neg fun hx => by have := hx.1; omega
    rw [hh]
    have q0 : ¬ (n : Int) = 64 := by omega
    clear h hl hh
    go_enter Try.func24, Try.ntmps24
    go_wp2
    go_ret3
    exact ⟨rfl, o0⟩
  subst hn64
  obtain ⟨b, off, rfl, hcell⟩ := h.at_ (by omega)
  have x0 := hcell 0 (by omega)
  have x1 := hcell 1 (by omega)
  have x2 := hcell 2 (by omega)
  have g0 : l.getD 0 0 = l[0] := getD_eq (by omega)
  have g1 : l.getD 1 0 = l[1] := getD_eq (by omega)
  have g2 : l.getD 2 0 = l[2] := getD_eq (by omega)
  have hd : isHead l ↔ l[0] = 1 ∧ l[1].toNat ≤ 3 ∧ l[2].toNat ≤ 3 := by
    unfold isHead
    rw [g0, g1, g2]
    exact ⟨fun x => x.2, fun x => ⟨hl, x⟩⟩
  have hv : headOf l = if l[0] = 1 ∧ l[1].toNat ≤ 3 ∧ l[2].toNat ≤ 3 then .tuple #[.int .i64 l[1].toNat, .int .i64 l[2].toNat, .bool true] else .tuple #[.int .i64 0, .int .i64 0, .bool false] := by
    unfold headOf
    rw [g1, g2]
    by_cases e : isHead l
    · rw [if_pos e, if_pos (hd.1 e)]
    · rw [if_neg e, if_neg (fun x => e (hd.2 x))]
  have e01 : l[0] = 1 ↔ l[0].toNat = 1 := ⟨fun e => by rw [e]; rfl, fun e => UInt8.toNat.inj e⟩
  simp only [e01] at hv
  have p0 := l[0].toNat_lt
  have p1 := l[1].toNat_lt
  have p2 := l[2].toNat_lt
  rw [hv]
  generalize l[0].toNat = a at *
  generalize l[1].toNat = p at *
  generalize l[2].toNat = q at *
  clear hv hd g0 g1 g2 h hl hcell e01
  rw [Nat.add_zero] at x0
  have HSP := Lib.hid (fun w => class_Span (p : Int) w (by omega))
  have hsp := span_cases (p : Int)
  by_cases ha : a = 1
  case neg =>
    rw [if_neg (fun x => ha x.1)]
    have q0 : ¬ (a : Int) = 1 := by omega
    go_enter Try.func24, Try.ntmps24
    go_wp2
    go_ret3
    exact ⟨rfl, o0⟩
  subst ha
  by_cases hp : p ≤ 3
  case neg =>
    rw [if_neg (fun x => hp x.2.1)]
    have hs0 : span (p : Int) = 0 := by omega
    rw [hs0] at HSP
    clear hsp
    go_enter Try.func24, Try.ntmps24
    go_wp2_with fail
    refine (HSP.out _).mono ?_
    rintro e w' ⟨rfl, rfl⟩
    go_wp2
    go_ret3
    exact ⟨rfl, o0⟩
  have hs1 : 1 ≤ span (p : Int) := by omega
  generalize span (p : Int) = s at *
  have q1 : ((s : Int) == 0) = false := by rw [beq_eq_false_iff_ne]; omega
  clear hsp
  by_cases hq : q ≤ 3
  case neg =>
    rw [if_neg (fun x => hq x.2.2)]
    have q2 : decide ((3 : Int) < (q : Int)) = true := by rw [decide_eq_true_eq]; omega
    go_enter Try.func24, Try.ntmps24
    go_wp2_with fail
    refine (HSP.out _).mono ?_
    rintro e w' ⟨rfl, rfl⟩
    go_wp2
    go_ret3
    exact ⟨rfl, o0⟩
  rw [if_pos ⟨rfl, hp, hq⟩]
  have q2 : decide ((3 : Int) < (q : Int)) = false := by rw [decide_eq_false_iff_not]; omega
  go_enter Try.func24, Try.ntmps24
  go_wp2_with fail
  refine (HSP.out _).mono ?_
  rintro e w' ⟨rfl, rfl⟩
  go_wp2
  go_quiet (fail)
  go_wp2
  go_ret3
  exact ⟨rfl, o0.drewN _⟩
set_option maxHeartbeats 800000 in
theorem block_Draft (c : Int) (w : World) (hc : -9223372036854775808 ≤ c ∧ c ≤ 9223372036854775807) :
    Calls Try.prog 25 #[.int .i64 c] w fun e w' => ∃ v, e = .returned v ∧ MadeB w (draftOf c) v w' := by
  have HSP := Lib.hid (fun w => class_Span c w hc)
  have o0 : Only [] w w := Only.refl _ _
  by_cases hs : span c = 0
  · have hd : draftOf c = [] := if_pos hs
    rw [hd]
    rw [hs] at HSP
    clear hd hs
    go_enter Try.func25, Try.ntmps25
    go_wp2_with fail
    refine (HSP.out _).mono ?_
    rintro e w' ⟨rfl, rfl⟩
    go_wp2
    go_ret
    exact ⟨.slice none 0 0, rfl, none, 0, rfl, own_nil _ _ _ _, o0⟩
  have hd : draftOf c = linesTo ⟨c, 0, 0, 0, 0, [], []⟩ 64 := if_neg hs
  have hrr : room ⟨c, 0, 0, 0, 0, [], []⟩ = List.replicate (capN c) 0 := by
    unfold room pad
    simp
  have hcv := capN_val c
  have hcap : capOf c = ((capN c : Nat) : Int) := (Int.toNat_of_nonneg (capOf_bd c).1).symm
  have hz : linesTo ⟨c, 0, 0, 0, 0, [], []⟩ 64 = laid (head32 ⟨c, 0, 0, 0, 0, [], []⟩) (lay 4 (crc (head32 ⟨c, 0, 0, 0, 0, [], []⟩ ++ List.replicate (capN c) 0))) (List.replicate (capN c) 0) 64 := by
    unfold linesTo sumOf
    rw [hrr]
  rw [hd, hz]
  have HEAD := Lib.hid (fun A n k w (hr : Bs w A n (List.replicate (capN c) 0)) (h1 : 28 ≤ n) (h2 : n ≤ 1000000) => block_head c 0 0 0 0 ⟨#[]⟩ ⟨#[]⟩ A n k _ w (by omega) (by omega) (by omega) (by show (0 : Nat) ≤ _; omega) (by show (0 : Nat) < _; omega) hr h1 h2)
  have hmk0 : mkB c 0 0 0 0 ⟨#[]⟩ ⟨#[]⟩ = ⟨c, 0, 0, 0, 0, [], []⟩ := rfl
  rw [hmk0] at HEAD
  obtain ⟨i0, hi0, hz0, hz1, hz2⟩ := info_parts Try.byteInfo
  have HCP := Lib.hid (fun w => class_Cap c w hc)
  rw [hcap] at HCP
  have hq : ¬ ((span c : Nat) : Int) = 0 := by omega
  generalize span c = s at *
  generalize capN c = N at *
  have hN : 28 ≤ N ∧ N ≤ 500 := by omega
  obtain ⟨w2, hmk, hb, ho, hsz⟩ := make_blk (P := Try.prog) w 27 5 i0 _ Try.underlying27 hi0 hz0 hz1 rfl .i64 .i64 N N (by omega) (by rw [hz2]; omega) (by omega)
  have hbs : Bs w2 (some ⟨w.heap.size, 0, none⟩) N (List.replicate N 0) := by
    have e : Array.replicate N (Value.int .u8 0) = ((List.replicate N (0 : UInt8)).map B).toArray := by
      apply Array.ext'
      simp [B]
    rw [e] at hb
    have := Arr.bs hb
    rwa [List.length_replicate] at this
  have HBS := Lib.hid hbs
  have HO := Lib.hid ho
  clear hi0 hz0 hz1 hz2 hb ho hbs hz hrr hd hs hcap hcv hmk0 hsz o0
  go_enter Try.func25, Try.ntmps25
  go_wp2_with fail
  refine (HSP.out _).mono ?_
  rintro e w' ⟨rfl, rfl⟩
  go_wp2_with fail
  refine (HCP.out _).mono ?_
  rintro e w' ⟨rfl, rfl⟩
  go_wp2_with fail
  refine (HEAD.out _ N N w2 HBS.out hN.1 (by omega)).mono ?_
  rintro e w5 ⟨v5, rfl, m5⟩
  go_wp2
  go_ret
  obtain ⟨A5, c5, rfl, b5, o5⟩ := m5
  exact ⟨_, rfl, A5, c5, rfl, World.ownsRow.mono b5 HO.out.size, HO.out.trans0 o5⟩
end Go.Proofs.Ytkhfcghnodggeaa
