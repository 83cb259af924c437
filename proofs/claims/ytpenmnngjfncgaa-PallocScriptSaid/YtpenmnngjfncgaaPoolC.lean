/- The contracts of palloc: Take, at, Give, Mark, Of, Room. -/
import Derived.Test.YtpenmnngjfncgaaPoolA
import Derived.Test.YtpenmnngjfncgaaPoolB
import Derived.Test.YtpenmnngjfncgaaClassB
import Derived.BigQuiet
namespace Go.Proofs.Ytpenmnngjfncgaa
open Go.RowKit Go.Proofs.FuMem Go.Proofs.FuClass Go.Proofs.FuPool
set_option maxRecDepth 100000
theorem cls_bd {P : Pool} (hP : Ok P) {i : Nat} {s : Slab} (hs : P[i]? = some s) : -1 ≤ s.cls ∧ s.cls ≤ 3 := by
  have ho := hP s (List.mem_of_getElem? hs)
  by_cases h : s.n = 0
  · have := ho.zero h
    omega
  · have := ho.busy h
    omega
theorem slab_at {i : Nat} (hi : i < 32) : slab (i : Int) = 2 + 8 * (i : Int) := by unfold slab; rw [if_neg (by omega)]
theorem pool_Take (g sb : Nat) (P : Pool) (c : Int) (w : World) (h : PoolAt w g sb P) (hP : Ok P) (hc : -9223372036854775808 ≤ c ∧ c ≤ 9223372036854775807) :
    Calls Try.prog 19 #[.pointer (some ⟨g, 0, none⟩), .int .i64 c] w fun e w' => e = .returned (.tuple #[.int .i64 (takeA P c).1, .int .i64 (takeA P c).2]) ∧ PoolAt w' g sb (takeP P c) ∧ Only [sb] w w' := by
  have HSP := Lib.hid (fun w => class_Span c w hc)
  have hsc := span_cases c
  by_cases h0 : span c = 0
  · have e1 : takeA P c = (0, 1) := if_pos h0
    have e2 : takeP P c = P := if_pos h0
    rw [e1, e2]
    have H := Lib.hid h
    rw [h0] at HSP
    clear h e1 e2 h0 hsc
    go_enter Try.func19, Try.ntmps19
    go_wp2_with fail
    refine (HSP.out _).mono ?_
    rintro e w' ⟨rfl, rfl⟩
    go_wp2
    go_ret2
    exact ⟨rfl, H.out, Only.refl _ _⟩
  have hc3 : 0 ≤ c ∧ c ≤ 3 := by omega
  have HF := Lib.hid (pool_find g sb P c w h hc3)
  have d0 : ((span c : Int) == 0) = false := by simp; omega
  have d1 : ¬ (span c : Int) = 0 := by omega
  cases hf : find P c with
  | none =>
    have e1 : takeA P c = (0, 4) := by unfold takeA; rw [if_neg h0, hf]
    have e2 : takeP P c = P := by unfold takeP; rw [if_neg h0, hf]
    have e3 : findV P c = .tuple #[.int .i64 0, .int .i64 0, .bool false] := by unfold findV; rw [hf]
    rw [e1, e2]
    rw [e3] at HF
    have H := Lib.hid h
    clear h e1 e2 e3 h0 hsc hf
    generalize span c = s at *
    go_enter Try.func19, Try.ntmps19
    go_wp2_with fail
    refine (HSP.out _).mono ?_
    rintro e w' ⟨rfl, rfl⟩
    go_wp2_with fail
    refine (HF.out).mono ?_
    rintro e w' ⟨rfl, rfl⟩
    go_wp2
    go_ret2
    exact ⟨rfl, H.out, Only.refl _ _⟩
  | some x =>
    obtain ⟨i, k⟩ := x
    obtain ⟨s, hs, h1, h2, h3⟩ := find_some hP hc3 hf
    have hm := many_span hc3
    have hi : i < P.length := (List.getElem?_eq_some_iff.1 hs).1
    have h32 := h.n32
    have e1 : takeA P c = (lineAt i k c, 0) := by unfold takeA; rw [if_neg h0, hf]
    have e2 : takeP P c = P.modify i fun s => s.take c k := by unfold takeP; rw [if_neg h0, hf]
    have e3 : findV P c = .tuple #[.int .i64 i, .int .i64 k, .bool true] := by unfold findV; rw [hf]
    rw [e1, e2]
    rw [e3] at HF
    have HT := Lib.hid (slab_take g sb P i k c s w h hs (by omega) h3)
    have HSL := Lib.hid (fun w => geom_Slab (i : Int) w)
    rw [slab_at (show i < 32 by omega)] at HSL
    have x0 := h.headCell
    have hb := lineAt_bd (i := i) hc3 h2
    have hln : lineAt i k c = 2 + 8 * (i : Int) + (k : Int) * (span c : Int) := by unfold lineAt; rw [Int.natCast_mul]
    have b1 : 0 ≤ (k : Int) * (span c : Int) := Int.mul_nonneg (by omega) (by omega)
    have b2 : (k : Int) * (span c : Int) ≤ 8 := by rw [hln] at hb; omega
    have HLN := Lib.hid hln
    have y1 : (0 : Int) ≤ (i : Int) := by omega
    have y2 : (i : Int) < (P.length : Int) := by omega
    generalize hQ : (P.modify i fun s => s.take c k) = Q at *
    clear h hs h1 h2 h3 e1 e2 e3 hf hQ hb hln hm hsc
    generalize hn : P.length = n at *
    clear hn
    generalize span c = sp at *
    go_enter Try.func19, Try.ntmps19
    go_wp2_with fail
    refine (HSP.out _).mono ?_
    rintro e w' ⟨rfl, rfl⟩
    go_wp2_with fail
    refine (HF.out).mono ?_
    rintro e w' ⟨rfl, rfl⟩
    go_wp2_with fail
    refine HT.out.mono ?_
    rintro e w2 ⟨rfl, p2, o2⟩
    have P2 := Lib.hid p2
    have O2 := Lib.hid o2
    clear p2 o2
    go_wp2_with fail
    refine (HSL.out _).mono ?_
    rintro e w' ⟨rfl, rfl⟩
    go_wp2_with fail
    refine (HSP.out _).mono ?_
    rintro e w' ⟨rfl, rfl⟩
    go_wp2
    go_ret2
    exact ⟨by rw [HLN.out]; rfl, P2.out, O2.out⟩
theorem pool_Take_nil (c : Int) (w : World) :
    Calls Try.prog 19 #[.pointer none, .int .i64 c] w fun e w' => e = .returned (.tuple #[.int .i64 0, .int .i64 1]) ∧ w = w' := by
  go_enter Try.func19, Try.ntmps19
  go_wp2
  go_ret2
  exact ⟨rfl, rfl⟩
def AtIs (sb : Nat) (P : Pool) (line : Int) (x : Value) (y : Int) (b : Bool) : Prop := (blockAt P line = none ∧ b = false) ∨ ∃ i k : Nat, blockAt P line = some (i, k) ∧ b = true ∧ x = .pointer (some ⟨sb, i * 10, none⟩) ∧ y = k
theorem pool_at (g sb : Nat) (P : Pool) (line : Int) (w : World) (h : PoolAt w g sb P) (hP : Ok P) :
    Calls Try.prog 41 #[.pointer (some ⟨g, 0, none⟩), .int .i64 line] w fun e w' => ∃ x y b, e = .returned (.tuple #[x, .int .i64 y, .bool b]) ∧ AtIs sb P line x y b ∧ Only [] w w' := by
  have HSO := Lib.hid (fun w => geom_SlabOf line w)
  have hb := slabOf_bd line
  have h32 := h.n32
  by_cases h0 : slabOf line < 0
  · have hbl : blockAt P line = none := if_pos h0
    have HB := Lib.hid hbl
    clear h hbl
    generalize slabOf line = i at *
    go_enter Try.func41, Try.ntmps41
    go_wp2_with fail
    refine (HSO.out _).mono ?_
    rintro e w' ⟨rfl, rfl⟩
    go_wp2
    go_ret3
    exact ⟨_, _, _, rfl, .inl ⟨HB.out, rfl⟩, Only.refl _ _⟩
  obtain ⟨i, hi⟩ : ∃ i : Nat, slabOf line = i := ⟨(slabOf line).toNat, by omega⟩
  have hbd : blockAt P line = match P[i]? with | none => none | some s => if idx (starts (i : Int) s.cls) line < 0 then none else if s.at (idx (starts (i : Int) s.cls) line).toNat = true then some (i, (idx (starts (i : Int) s.cls) line).toNat) else none := by
    unfold blockAt
    rw [if_neg h0, hi, Int.toNat_natCast]
    cases P[i]? <;> rfl
  have HA := Lib.hid (pool_all g sb P w h)
  rw [hi] at HSO
  by_cases hlt : i < P.length
  case neg =>
    have hbl : blockAt P line = none := by rw [hbd, List.getElem?_eq_none (by omega)]
    have HB := Lib.hid hbl
    have q1 : decide ((P.length : Int) ≤ (i : Int)) = true := by rw [decide_eq_true_eq]; omega
    have q2 : decide ((i : Int) < 0) = false := by rw [decide_eq_false_iff_not]; omega
    clear h hbl hbd hi h0 hb
    generalize P.length = n at *
    go_enter Try.func41, Try.ntmps41
    go_wp2_with fail
    refine (HSO.out _).mono ?_
    rintro e w' ⟨rfl, rfl⟩
    go_wp2_with fail
    refine (HA.out).mono ?_
    rintro e w' ⟨rfl, rfl⟩
    go_wp2
    go_ret3
    exact ⟨_, _, _, rfl, .inl ⟨HB.out, rfl⟩, Only.refl _ _⟩
  obtain ⟨s, hs⟩ : ∃ s, P[i]? = some s := ⟨_, List.getElem?_eq_getElem hlt⟩
  rw [hs] at hbd
  simp only at hbd
  have hcb := cls_bd hP hs
  have HST := Lib.hid (fun w => class_Starts (i : Int) s.cls w (by omega))
  have q1 : decide ((P.length : Int) ≤ (i : Int)) = false := by rw [decide_eq_false_iff_not]; omega
  have q2 : decide ((i : Int) < 0) = false := by rw [decide_eq_false_iff_not]; omega
  have x0 := h.headCell
  have xc := h.cls hs
  have HM := Lib.hid (fun k (hk : k < 8) => h.mark hs hk)
  have y1 : (0 : Int) ≤ (i : Int) := by omega
  have y2 : (i : Int) < (P.length : Int) := by omega
  have hsl := starts_length (i : Int) s.cls
  have hix := idx_bd (starts (i : Int) s.cls) line
  have HMEM := Lib.hid (fun (hk : 0 ≤ idx (starts (i : Int) s.cls) line) => (show ∃ k : Nat, k < 8 ∧ idx (starts (i : Int) s.cls) line = k by
    obtain ⟨k, h1, h2, h3, h4⟩ := idx_mem (by omega) hk
    have := many_span h4
    exact ⟨k, by omega, h2⟩))
  have HBD := Lib.hid hbd
  have hgl := h.ltg
  have hsl2 := h.lts
  clear h hs hbd hi h0 hb
  generalize P.length = n at *
  generalize starts (i : Int) s.cls = L at *
  generalize s.cls = cl at *
  by_cases hk0 : 0 ≤ idx L line
  case neg =>
    have hbl : blockAt P line = none := by rw [HBD.out, if_pos (by omega)]
    have HB := Lib.hid hbl
    have q3 : decide (0 ≤ idx L line) = false := by rw [decide_eq_false_iff_not]; exact hk0
    clear hbl hk0
    go_enter Try.func41, Try.ntmps41
    go_wp2_with fail
    refine (HSO.out _).mono ?_
    rintro e w' ⟨rfl, rfl⟩
    go_wp2_with fail
    refine (HA.out).mono ?_
    rintro e w' ⟨rfl, rfl⟩
    go_wp2_with fail
    refine (HST.out _).mono ?_
    rintro e w2 ⟨v2, rfl, A2, c2, rfl, b2, o2⟩
    have IX := Lib.hid (index_ints A2 L.length c2 L line w2 (is_own b2) (by omega))
    have O2 := Lib.hid o2
    clear b2 o2
    generalize idx L line = ix at *
    go_wp2_with fail
    refine (IX.out).mono ?_
    rintro e w' ⟨rfl, rfl⟩
    go_wp2
    go_quiet (fail)
    go_wp2
    go_ret3
    exact ⟨_, _, _, rfl, .inl ⟨HB.out, rfl⟩, O2.out.drewN _⟩
  obtain ⟨k, hk8, hk⟩ := HMEM.out hk0
  have xm := HM.out k hk8
  have hbd2 := HBD.out
  rw [hk, if_neg (by omega), Int.toNat_natCast] at hbd2
  have HB2 := Lib.hid hbd2
  have q3 : decide (0 ≤ (k : Int)) = true := by rw [decide_eq_true_eq]; omega
  have z1 : (0 : Int) ≤ (k : Int) := by omega
  have z2 : (k : Int) < 8 := by omega
  have hres : AtIs sb P line (.pointer (some ⟨sb, i * 10, none⟩)) k (s.at k) := by
    by_cases ht : s.at k = true
    · rw [if_pos ht] at hbd2
      exact .inr ⟨i, k, hbd2, ht, rfl, rfl⟩
    · rw [if_neg ht] at hbd2
      exact .inl ⟨hbd2, by simpa using ht⟩
  have HRES := Lib.hid hres
  generalize s.at k = b at *
  have IXX := Lib.hid hk
  clear hbd2 hk0 hk hres
  go_enter Try.func41, Try.ntmps41
  go_wp2_with fail
  refine (HSO.out _).mono ?_
  rintro e w' ⟨rfl, rfl⟩
  go_wp2_with fail
  refine (HA.out).mono ?_
  rintro e w' ⟨rfl, rfl⟩
  go_wp2_with fail
  refine (HST.out _).mono ?_
  rintro e w2 ⟨v2, rfl, A2, c2, rfl, b2, o2⟩
  have IX := Lib.hid (index_ints A2 L.length c2 L line w2 (is_own b2) (by omega))
  rw [IXX.out] at IX
  have O2 := Lib.hid o2
  have xm2 : w2.cell? ⟨sb, i * 10 + 1 + k, none⟩ = some (.bool b) := (cell_only o2 hsl2 (by simp)).trans xm
  clear b2 o2 xm
  go_wp2_with fail
  refine (IX.out).mono ?_
  rintro e w' ⟨rfl, rfl⟩
  go_wp2
  go_quiet (fail)
  go_wp2
  go_ret3
  exact ⟨_, _, _, rfl, HRES.out, O2.out.drewN _⟩
end Go.Proofs.Ytpenmnngjfncgaa
