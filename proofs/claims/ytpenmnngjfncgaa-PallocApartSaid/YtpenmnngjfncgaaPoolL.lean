/- Law 7: the walk of PallocApart. -/
import Derived.Test.YtpenmnngjfncgaaPoolK
import Derived.BigQuiet
namespace Go.Proofs.Ytpenmnngjfncgaa
open Go.RowKit Go.Proofs.FuMem Go.Proofs.FuClass Go.Proofs.FuPool
set_option maxRecDepth 100000
set_option maxHeartbeats 1500000 in
theorem walk_PallocApart (slabs : Int) (A : Option Addr) (n c : Nat) (xs : List Deed) (w : World) (_h1 : -9223372036854775808 ≤ slabs ∧ slabs ≤ 9223372036854775807) (h : Acts w A n xs) (_hc : n ≤ c) :
    Calls Try.prog 3 #[.int .i64 slabs, .slice A n c] w fun e w' => e = .returned (.bool true) ∧ Only [] w w' := by
  have O0 := Lib.hid (Only.refl [] w)
  by_cases hbig : 60 < n
  · have q0 : decide ((60 : Int) < (n : Int)) = true := by rw [decide_eq_true_eq]; omega
    clear h
    go_enter Try.func3, Try.ntmps3
    go_wp2_with fail
    refine (law7_awake _).mono ?_
    rintro e wz ⟨rfl, oz⟩
    have OZ := Lib.hid (O0.out.trans0 oz)
    clear oz
    go_wp2
    go_ret
    exact ⟨rfl, OZ.out⟩
  have q0 : decide ((60 : Int) < (n : Int)) = false := by rw [decide_eq_false_iff_not]; omega
  have hn : n ≤ 60 := by omega
  have HPL := Lib.hid (law7_played slabs A n c xs w h hn)
  have hlo := low_lt slabs 32 (by omega)
  have h32 : (newPool (1 + low slabs 32)).length ≤ 32 := by simp [newPool]; omega
  have h1n : 1 ≤ (newPool (1 + low slabs 32)).length := by simp [newPool]
  obtain ⟨hok, hpl⟩ := playP_ok (newPool_ok (1 + low slabs 32)) h32 xs
  rw [← hpl] at h32 h1n
  clear hpl hlo h hbig
  generalize playP (newPool (1 + low slabs 32)) xs = P at *
  have HOK := Lib.hid hok
  clear hok
  go_enter Try.func3, Try.ntmps3
  go_wp2_with fail
  refine HPL.out.mono ?_
  rintro e w1 ⟨g, sb, rfl, p1, o1, hg, hs⟩
  have P1 := Lib.hid p1
  have O1 := Lib.hid o1
  clear p1 o1
  have HTA := Lib.hid (pool_Taken g sb P w1 P1.out HOK.out)
  have HPLC := Lib.hid (fun (x : Int × Int) (hx : x ∈ takenOf P) => taken_place h32 hx)
  have HRI := Lib.hid (taken_rise P)
  have hln : (takenOf P).length ≤ 256 := by have := blocksTo_length P P.length; unfold takenOf; omega
  generalize takenOf P = l at *
  go_wp2_with fail
  refine HTA.out.mono ?_
  rintro e w2 ⟨v2, rfl, A2, c2, rfl, b2, o2⟩
  have T2 := Lib.hid (ts_own b2 rfl)
  have O2 := Lib.hid (O1.out.trans0 o2)
  have HSL := Lib.hid (pool_Slabs g sb P w2 (P1.out.only0 o2))
  have hsl : (slabsOf P).length = P.length := by simp [slabsOf]
  have HSG := Lib.hid (fun (i : Nat) (s : Slab) (h : P[i]? = some s) => show (slabsOf P)[i]? = some s.cls by unfold slabsOf; rw [List.getElem?_map, h]; rfl)
  generalize slabsOf P = S at *
  have HSN := Lib.hid hsl
  clear b2 o2 hsl
  go_wp2_with fail
  refine HSL.out.mono ?_
  rintro e w3 ⟨v3, rfl, A3, c3, rfl, b3, o3⟩
  have I3 := Lib.hid (is_own b3)
  have T3 := Lib.hid (T2.out.only0 o3)
  have O3 := Lib.hid (O2.out.trans0 o3)
  clear b3 o3
  go_wp2
  go_loopw [8, 9] (fun av kv wr => ∃ (j : Nat) (a : Int), j ≤ l.length ∧ kv = .int .i64 j ∧ av = .int .i64 a ∧ (∀ x, l[j]? = some x → a ≤ x.1) ∧ Only [] w3 wr) (fun _ kv _ => l.length - (intOf kv).toNat)
  case atStart => exact ⟨0, 0, by omega, rfl, rfl, fun x hx => (by have := HPLC.out x (List.mem_of_getElem? hx); obtain ⟨_, _, _, _, _, _, h2, _⟩ := this; omega), Only.refl _ _⟩
  case round =>
    obtain ⟨j, a, hj, rfl, rfl, hall, on⟩ := hrel
    by_cases hlt : j < l.length
    · have y1 : (0 : Int) ≤ (j : Int) := by omega
      have y2 : (j : Int) < (l.length : Int) := by omega
      have y3 : decide ((j : Int) < (l.length : Int)) = true := by rw [decide_eq_true_eq]; omega
      obtain ⟨x, hx⟩ : ∃ x, l[j]? = some x := ⟨_, List.getElem?_eq_getElem hlt⟩
      obtain ⟨i, s, hs1, hs2, hs3, hs4, hs5, hs6, hs7, hs8, hs9⟩ := HPLC.out x (List.mem_of_getElem? hx)
      have hsg := HSG.out i s hs1
      have hnx : ∀ y, l[j + 1]? = some y → x.1 + (span x.2 : Int) ≤ y.1 := fun y hy => by
        have hp := HRI.out
        rw [List.pairwise_iff_getElem] at hp
        obtain ⟨h1, e1⟩ := List.getElem?_eq_some_iff.1 hx
        obtain ⟨h2, e2⟩ := List.getElem?_eq_some_iff.1 hy
        have := hp j (j + 1) h1 h2 (by omega)
        rw [e1, e2] at this
        exact this
      have ha := hall x hx
      rcases (T3.out.only0 on).2 with h0 | ⟨b4, o4, e4, hc4⟩
      · omega
      obtain ⟨x0, x1⟩ := hc4 j x hx
      obtain ⟨ln, cl⟩ := x
      simp only at x0 x1 hs2 hs3 hs4 hs5 hs6 hs7 hs8 hs9 hnx ha
      have hi : i < S.length := by have := (List.getElem?_eq_some_iff.1 hs1).1; have := HSN.out; omega
      obtain ⟨b5, o5, e5, hc5⟩ := (I3.out.only0 on).at_ (by omega)
      have x5 := hc5 i hi
      have hsi : S[i] = cl := by
        rw [List.getElem?_eq_getElem hi] at hsg
        have := Option.some.inj hsg
        omega
      rw [hsi] at x5
      subst e4
      subst e5
      have HSO := Lib.hid (fun w => geom_SlabOf ln w)
      rw [hs2] at HSO
      have HHO := Lib.hid (fun w => class_Home ln cl w (by omega))
      rw [hs4] at HHO
      have HSP := Lib.hid (fun w => class_Span cl w (by omega))
      have NX := Lib.hid hnx
      have ON := Lib.hid on
      have q1 : decide (ln < a) = false := by rw [decide_eq_false_iff_not]; omega
      have q2 : decide ((S.length : Int) ≤ (i : Int)) = false := by rw [decide_eq_false_iff_not]; omega
      have q2n : decide (S.length ≤ i) = false := by rw [decide_eq_false_iff_not]; omega
      have q3 : (cl != cl) = false := by simp
      have q4 : (0 : Int) ≤ (i : Int) := by omega
      have q5 : (i : Int) < (S.length : Int) := by omega
      have hsn := span_le cl
      have q6 : IntKind.i64.wrap (ln + (span cl : Int)) = ln + (span cl : Int) := by rw [IntKind.wrap_i64]; omega
      clear hall hc4 hc5 hsg hs1 hs2 hs3 hs4 hsi hnx on hx ha
      generalize span cl = sp at *
      go_wp2_with fail
      refine (HSO.out _).mono ?_
      rintro e w' ⟨rfl, rfl⟩
      go_wp2
      have c0 : ∀ p : Later wr, p.w.cell? ⟨b4, o4 + j * 2, none⟩ = some (.int .i64 ln) := fun p => p.cell x0
      have c1 : ∀ p : Later wr, p.w.cell? ⟨b4, o4 + j * 2 + 1, none⟩ = some (.int .i64 cl) := fun p => p.cell x1
      have c5 : ∀ p : Later wr, p.w.cell? ⟨b5, o5 + i, none⟩ = some (.int .i64 cl) := fun p => p.cell x5
      refine wp_region_later wr (by kernel_rfl) (by kernel_rfl) ?_
      repeat (quiet_step (fail))
      quiet_step (exact Calls.later (HHO.out _))
      repeat (quiet_step (fail))
      refine wpQuiet_nil ?_
      intro _ hw'
      obtain ⟨p, hw''⟩ := hw'
      subst hw''
      have ON2 := Lib.hid (ON.out.trans0 p.only)
      have d0 := c0 p
      have d1 := c1 p
      clear c0 c1 c5 x0 x1 x5
      generalize p.w = w7 at *
      go_wp2
      have c0 : ∀ p : Later w7, p.w.cell? ⟨b4, o4 + j * 2, none⟩ = some (.int .i64 ln) := fun p => p.cell d0
      have c1 : ∀ p : Later w7, p.w.cell? ⟨b4, o4 + j * 2 + 1, none⟩ = some (.int .i64 cl) := fun p => p.cell d1
      refine wp_region_later w7 (by kernel_rfl) (by kernel_rfl) ?_
      repeat (quiet_step (fail))
      quiet_step (exact Calls.later_same (HSP.out _))
      repeat (quiet_step (fail))
      refine wpQuiet_nil ?_
      intro _ hw'
      obtain ⟨p, hw''⟩ := hw'
      subst hw''
      have ON3 := Lib.hid (ON2.out.trans0 p.only)
      go_wp2
      go_roundw
      · exact ⟨j + 1, ln + (sp : Int), by omega, by simp, rfl, fun y hy => NX.out y hy, ON3.out⟩
      · simp [intOf]
        omega
    · obtain rfl : j = l.length := by omega
      have y3 : decide ((l.length : Int) < (l.length : Int)) = false := by simp
      have ON := Lib.hid (O3.out.trans0 on)
      clear on hall
      go_wp2_with fail
      refine (law7_awake _).mono ?_
      rintro e wz ⟨rfl, oz⟩
      have OZ := Lib.hid (ON.out.trans0 oz)
      clear oz
      go_wp2
      go_ret
      exact ⟨rfl, OZ.out⟩
end Go.Proofs.Ytpenmnngjfncgaa
