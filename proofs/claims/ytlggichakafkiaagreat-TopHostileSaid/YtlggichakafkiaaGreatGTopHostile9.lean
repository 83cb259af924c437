/- slices.SortStableFunc at links: symMerge, both parts of more than one. (printed by gen-sort.py) -/
import Derived.Shelf.SlSortCmp.PdqK
import Derived.Shelf.SlSortCmp.NoneTotal
import Derived.Test.YtlggichakafkiaaGreatGTopHostile1
import Derived.Test.YtlggichakafkiaaGreatGTopHostile2
import Derived.Test.YtlggichakafkiaaGreatGTopHostile3
import Derived.Test.YtlggichakafkiaaGreatGTopHostile4
import Derived.Test.YtlggichakafkiaaGreatGTopHostile5
import Derived.Test.YtlggichakafkiaaGreatGTopHostile6
import Derived.Test.YtlggichakafkiaaGreatGTopHostile7
import Derived.Test.YtlggichakafkiaaGreatGTopHostile8
set_option linter.unusedSimpArgs false
set_option linter.unusedVariables false
namespace Go.Proofs.YtlggichakafkiaaGreat
open Go.BigFrame Go.RowKit Go.Proofs.FuMem Go.Proofs.FuTop Go.Sort Go.Lib Go.Shelf
set_option maxRecDepth 100000
set_option maxHeartbeats 16000000 in
theorem symMerge_deep (cf : Link → Link → Int) (k : Nat) (zE : ∀ w, (Go.sizeOf 70).run Tryz.prog w = .ok k w) (g : Nat) (cb : Array Value) (blk cap n : Nat) (d0 : Array Link) (w0 : World) (R : RowK linkC k w0 blk 0 d0) (hs : d0.size = n) (hsz : n ≤ 100000) (eg : ∀ args w, (callFunc g args).run Tryz.prog w = .ok (.enter g args) w) (hcmp : CmpLays Tryz.prog g cb linkC k cf blk 0 n w0) (f : Nat)
  (IH : ∀ (a m b : Nat) (za zm zb : Int) (d : Array Link) (w : World), za = a → zm = m → zb = b → a < m → m < b → b ≤ n → b - a ≤ f → d.size = n → SWK linkC k w0 blk 0 d w →
   Calls Tryz.prog 350 #[.slice (some ⟨blk, 0, none⟩) n cap, .int .i64 za, .int .i64 zm, .int .i64 zb, .func (.func g) #[] cb] w fun e w' => e = .returned (.tuple #[]) ∧ SWK linkC k w0 blk 0 (symMerge (ltOf cf) f a m b d) w')
  (a m b : Nat) (za zm zb : Int) (d : Array Link) (w : World) (hza : za = a) (hzm : zm = m) (hzb : zb = b) (ham : a < m) (hmb : m < b) (hb : b ≤ n) (hd : d.size = n) (S : SWK linkC k w0 blk 0 d w) (h1 : ¬ m - a = 1) (h2 : ¬ b - m = 1) (hf : b - a ≤ f + 1) :
  Calls Tryz.prog 350 #[.slice (some ⟨blk, 0, none⟩) n cap, .int .i64 za, .int .i64 zm, .int .i64 zb, .func (.func g) #[] cb] w fun e w' => e = .returned (.tuple #[]) ∧ SWK linkC k w0 blk 0 (symMerge (ltOf cf) (f + 1) a m b d) w' := by
 subst hza hzb hzm
 have S0 : Aside (SWK linkC k w0 blk 0 d w) := S
 have HC : Aside _ := hcmp
 clear S hcmp
 have q1 : ¬ (m : Int) - (a : Int) = 1 := by omega
 have q1b : ((m : Int) - (a : Int) == 1) = false := by simpa using q1
 have q2 : ¬ (b : Int) - (m : Int) = 1 := by omega
 have q2b : ((b : Int) - (m : Int) == 1) = false := by simpa using q2
 obtain ⟨q, hq⟩ : ∃ q, q = (a + b) / 2 := ⟨_, rfl⟩
 have hqz : ((a : Int) + (b : Int)) / 2 = (q : Int) := by omega
 have RR := hq9 R
 have HI := hq9 IH
 have HB : Hid (a < q ∧ q < b) := by show _ ∧ _; omega
 have HEQ := hq9 (symMerge_eq (ltOf cf) (f := f) d h1 h2)
 have HSA := hq9 (symAt_le (ltOf cf) d ham hmb)
 rw [← hq] at HEQ
 have HQ := hq9 hq
 clear hq IH
 have wr1 : IntKind.i64.wrap ((q : Int) + (m : Int)) = (q : Int) + (m : Int) := by rw [IntKind.wrap_i64]; have := HB.out; omega
 have wr2 : IntKind.i64.wrap ((q : Int) + (m : Int) - 1) = (q : Int) + (m : Int) - 1 := by rw [IntKind.wrap_i64]; have := HB.out; omega
 have wr3 : IntKind.i64.wrap ((q : Int) + (m : Int) - (b : Int)) = (q : Int) + (m : Int) - (b : Int) := by rw [IntKind.wrap_i64]; have := HB.out; omega
 by_cases hgt : q < m
 ·have hgz : (q : Int) < (m : Int) := by omega
  have HL : Hid (symFrom a m b = q + m - b ∧ symTo a m b = q) := by unfold symFrom symTo; rw [← HQ.out]; exact ⟨if_pos hgt, if_pos hgt⟩
  have HSS : Hid (symAt (ltOf cf) d a m b = bsSym (ltOf cf) d (q + m - 1) (q + m - b) (q)) := by show _ = _; unfold symAt; rw [HL.out.1, HL.out.2, ← HQ.out]
  have HSB : Hid (q + m - b ≤ symAt (ltOf cf) d a m b ∧ symAt (ltOf cf) d a m b ≤ q) := by have := HSA.out; rw [HL.out.1, HL.out.2] at this; exact this
  go_enter Tryz.func350, Tryz.ntmps350
  go_wp2_with fail
  go_loopg [20, 21] (q) (fun kx si sj wr => ∃ (i j : Nat) (zi zj : Int), si = .int .i64 zi ∧ sj = .int .i64 zj ∧ zi = i ∧ zj = j ∧ q + m - b ≤ i ∧ i ≤ j ∧ j ≤ q ∧ j - i ≤ kx ∧ Aside (SWK linkC k w0 blk 0 d wr) ∧ Hid (bsSym (ltOf cf) d (q + m - 1) i j = symAt (ltOf cf) d a m b))
  case atStart => exact ⟨q + m - b, q, _, _, rfl, rfl, by have := HB.out; omega, by have := HB.out; omega, by omega, by have := HB.out; have := HQ.out; omega, by omega, by omega, S0, (show Hid _ from HSS.out.symm)⟩
  case round =>
   clear S0
   obtain ⟨i, j, zi, zj, rfl, rfl, rfl, rfl, hmi, hij, hjb, hkx, S1, HE⟩ := hrel
   by_cases hlt : i < j
   ·have hz : (i : Int) < (j : Int) := by omega
    have hbb := HB.out
    have hq2 : 2 * q ≤ a + b ∧ a + b ≤ 2 * q + 1 := by have := HQ.out; omega
    cases hL : ltOf cf d[q + m - 1 - (i + j) / 2]! d[(i + j) / 2]! with
    | true =>
      have HU : Hid (bsSym (ltOf cf) d (q + m - 1) i j = bsSym (ltOf cf) d (q + m - 1) i ((i + j) / 2)) := by show _ = _; conv => lhs; rw [bsSym, if_pos hlt, if_pos hL]
      obtain ⟨h, hh⟩ : ∃ h, h = (i + j) / 2 := ⟨_, rfl⟩
      obtain ⟨t, ht⟩ : ∃ t, t = q + m - 1 - h := ⟨_, rfl⟩
      have hhz : ((i : Int) + (j : Int)) / 2 = (h : Int) := by omega
      have htz : (q : Int) + (m : Int) - 1 - (h : Int) = (t : Int) := by omega
      have hwr : IntKind.i64.wrap ((h : Int) + 1) = (h : Int) + 1 := by rw [IntKind.wrap_i64]; omega
      rw [← hh] at hL HU
      rw [← ht] at hL
      have HH : Hid (h = (i + j) / 2 ∧ t = q + m - 1 - h) := ⟨hh, ht⟩
      have hb1 : i ≤ h ∧ h < j ∧ t < n := by omega
      clear hh ht
      have R := RR.out
      have ea1 : ((t : Int)).toNat = t := by omega
      have pa1 : (0 : Int) ≤ (t : Int) := by omega
      have ba1 : (t : Int) < (n : Int) := by omega
      have ra1 : IntKind.i64.wrap ((t : Int)) = (t : Int) := by rw [IntKind.wrap_i64]; omega
      have ec1 : ((h : Int)).toNat = h := by omega
      have pc1 : (0 : Int) ≤ (h : Int) := by omega
      have bc1 : (h : Int) < (n : Int) := by omega
      have rc1 : IntKind.i64.wrap ((h : Int)) = (h : Int) := by rw [IntKind.wrap_i64]; omega
      obtain ⟨x1, hx1⟩ : ∃ x, x = d[t]! := ⟨_, rfl⟩
      obtain ⟨y1, hy1⟩ : ∃ x, x = d[h]! := ⟨_, rfl⟩
      have l1a := S1.out.ld R (by omega) Tryz.prog (t) (by omega)
      have l1b := S1.out.ld R (by omega) Tryz.prog (h) (by omega)
      rw [← hx1] at l1a
      rw [← hy1] at l1b
      have hc1 := S1.out.cmp HC.out (by omega) x1 y1
      have hv1 : cf x1 y1 < 0 := by rw [hx1, hy1]; exact of_decide_eq_true hL
      have hd1 : decide (cf x1 y1 < 0) = true := decide_eq_true hv1
      clear hx1 hy1
      simp only [Nat.zero_add] at l1a l1b
      have mixed : Tryz.prog.follows Departure.mixedOrders = true := by kernel_rfl
      go_wp2_with fail
      go_quiet_grown (first | (go_at_fn g; refine Calls.grown_of (hc1 _ _)))
      have S2 : Aside (SWK linkC k w0 blk 0 d (grow (wr.drewN nq) osq)) := S1.out.grown nq osq
      clear l1a l1b hc1 S1
      generalize grow (wr.drewN nq) osq = w2 at S2 ⊢
      clear nq osq
      go_wp2_with fail
      go_roundg (h - i)
      case measure => omega
      case rel => exact ⟨i, h, _, _, rfl, rfl, rfl, by omega, by omega, by omega, by omega, by omega, S2, (show Hid _ from HU.out.symm.trans HE.out)⟩
    | false =>
      have HU : Hid (bsSym (ltOf cf) d (q + m - 1) i j = bsSym (ltOf cf) d (q + m - 1) ((i + j) / 2 + 1) j) := by show _ = _; conv => lhs; rw [bsSym, if_pos hlt, if_neg (by rw [hL]; decide)]
      obtain ⟨h, hh⟩ : ∃ h, h = (i + j) / 2 := ⟨_, rfl⟩
      obtain ⟨t, ht⟩ : ∃ t, t = q + m - 1 - h := ⟨_, rfl⟩
      have hhz : ((i : Int) + (j : Int)) / 2 = (h : Int) := by omega
      have htz : (q : Int) + (m : Int) - 1 - (h : Int) = (t : Int) := by omega
      have hwr : IntKind.i64.wrap ((h : Int) + 1) = (h : Int) + 1 := by rw [IntKind.wrap_i64]; omega
      rw [← hh] at hL HU
      rw [← ht] at hL
      have HH : Hid (h = (i + j) / 2 ∧ t = q + m - 1 - h) := ⟨hh, ht⟩
      have hb1 : i ≤ h ∧ h < j ∧ t < n := by omega
      clear hh ht
      have R := RR.out
      have ea1 : ((t : Int)).toNat = t := by omega
      have pa1 : (0 : Int) ≤ (t : Int) := by omega
      have ba1 : (t : Int) < (n : Int) := by omega
      have ra1 : IntKind.i64.wrap ((t : Int)) = (t : Int) := by rw [IntKind.wrap_i64]; omega
      have ec1 : ((h : Int)).toNat = h := by omega
      have pc1 : (0 : Int) ≤ (h : Int) := by omega
      have bc1 : (h : Int) < (n : Int) := by omega
      have rc1 : IntKind.i64.wrap ((h : Int)) = (h : Int) := by rw [IntKind.wrap_i64]; omega
      obtain ⟨x1, hx1⟩ : ∃ x, x = d[t]! := ⟨_, rfl⟩
      obtain ⟨y1, hy1⟩ : ∃ x, x = d[h]! := ⟨_, rfl⟩
      have l1a := S1.out.ld R (by omega) Tryz.prog (t) (by omega)
      have l1b := S1.out.ld R (by omega) Tryz.prog (h) (by omega)
      rw [← hx1] at l1a
      rw [← hy1] at l1b
      have hc1 := S1.out.cmp HC.out (by omega) x1 y1
      have hv1 : ¬ cf x1 y1 < 0 := by rw [hx1, hy1]; exact of_decide_eq_false hL
      have hd1 : decide (cf x1 y1 < 0) = false := decide_eq_false hv1
      clear hx1 hy1
      simp only [Nat.zero_add] at l1a l1b
      have mixed : Tryz.prog.follows Departure.mixedOrders = true := by kernel_rfl
      go_wp2_with fail
      go_quiet_grown (first | (go_at_fn g; refine Calls.grown_of (hc1 _ _)))
      have S2 : Aside (SWK linkC k w0 blk 0 d (grow (wr.drewN nq) osq)) := S1.out.grown nq osq
      clear l1a l1b hc1 S1
      generalize grow (wr.drewN nq) osq = w2 at S2 ⊢
      clear nq osq
      go_wp2_with fail
      go_roundg (j - (h + 1))
      case measure => omega
      case rel => exact ⟨h + 1, j, _, _, rfl, rfl, by omega, rfl, by omega, by omega, by omega, by omega, S2, (show Hid _ from HU.out.symm.trans HE.out)⟩
   ·have hz : ¬ (i : Int) < (j : Int) := by omega
    have hse : symAt (ltOf cf) d a m b = i := by rw [← HE.out, bsSym, if_neg hlt]
    have HEQ2 := HEQ
    have HSB2 := HSB
    rw [hse] at HEQ2 HSB2
    clear hse HE HSS HEQ
    have hbb := HB.out
    have hq2 : 2 * q ≤ a + b ∧ a + b ≤ 2 * q + 1 := by have := HQ.out; omega
    have hsb := HSB2.out
    have wr4 : IntKind.i64.wrap ((q : Int) + (m : Int) - (i : Int)) = (q : Int) + (m : Int) - (i : Int) := by rw [IntKind.wrap_i64]; omega
    have key : ∀ (D : Array Link) (ww : World), D = symD3 (ltOf cf) f q (q + m - i) b (symD2 (ltOf cf) f a i q (symRot d m i (q + m - i))) → SWK linkC k w0 blk 0 D ww → SWK linkC k w0 blk 0 (symMerge (ltOf cf) (f + 1) a m b d) ww := fun D ww hD hS => by rw [HEQ2.out, ← hD]; exact hS
    have KEY := hq9 key
    clear key
    by_cases hr1 : i < m
    ·have hr1z : (i : Int) < (m : Int) := by omega
     by_cases hr2 : m < q + m - i
     ·have hr2z : (m : Int) < (q : Int) + (m : Int) - (i : Int) := by omega
      go_wp2_with fail
      refine (sort_rotate k zE g cb blk cap n d0 d w0 _ RR.out hs hd S1.out hsz i m (q + m - i) _ _ _ rfl rfl (by omega) hr1 hr2 (by omega)).mono ?_
      rintro e w6 ⟨rfl, s6⟩
      have S6 := hq9 s6
      clear s6
      by_cases ha1 : a < i
      ·have ha1z : (a : Int) < (i : Int) := by omega
       by_cases ha2 : i < q
       ·have ha2z : (i : Int) < (q : Int) := by omega
        go_wp2_with fail
        refine (HI.out a i q _ _ _ (rotLoop m (m - i) (q + m - i - m) d) _ rfl rfl rfl ha1 ha2 (by omega) (by omega) ((among_rotLoop _ _ _ _).1.trans hd) S6.out).mono ?_
        rintro e w7 ⟨rfl, s7⟩
        have S7 := hq9 s7
        clear s7
        by_cases hc1 : q < q + m - i
        ·have hc1z : (q : Int) < (q : Int) + (m : Int) - (i : Int) := by omega
         by_cases hc2 : q + m - i < b
         ·have hc2z : (q : Int) + (m : Int) - (i : Int) < (b : Int) := by omega
          go_wp2_with fail
          refine (HI.out q (q + m - i) b _ _ _ (symMerge (ltOf cf) f a i q (rotLoop m (m - i) (q + m - i - m) d)) _ rfl (by omega) rfl hc1 hc2 hb (by omega) ((among_symMerge _ _ _ _ _ _).1.trans ((among_rotLoop _ _ _ _).1.trans hd)) S7.out).mono ?_
          rintro e w8 ⟨rfl, s8⟩
          have S8 := hq9 s8
          clear s8
          first
           | (exfalso; omega)
           | (go_wp2
              go_end0
              refine ⟨rfl, KEY.out _ _ ?_ S8.out⟩
              rw [symD3, if_pos ⟨hc1, hc2⟩, symD2, if_pos ⟨ha1, ha2⟩, symRot, if_pos ⟨hr1, hr2⟩])
         ·have hc2z : ¬ (q : Int) + (m : Int) - (i : Int) < (b : Int) := by omega
          first
           | (exfalso; omega)
           | (go_wp2
              go_end0
              refine ⟨rfl, KEY.out _ _ ?_ S7.out⟩
              rw [symD3, if_neg (by omega), symD2, if_pos ⟨ha1, ha2⟩, symRot, if_pos ⟨hr1, hr2⟩])
        ·have hc1z : ¬ (q : Int) < (q : Int) + (m : Int) - (i : Int) := by omega
         first
          | (exfalso; omega)
          | (go_wp2
             go_end0
             refine ⟨rfl, KEY.out _ _ ?_ S7.out⟩
             rw [symD3, if_neg (by omega), symD2, if_pos ⟨ha1, ha2⟩, symRot, if_pos ⟨hr1, hr2⟩])
       ·have ha2z : ¬ (i : Int) < (q : Int) := by omega
        by_cases hc1 : q < q + m - i
        ·have hc1z : (q : Int) < (q : Int) + (m : Int) - (i : Int) := by omega
         by_cases hc2 : q + m - i < b
         ·have hc2z : (q : Int) + (m : Int) - (i : Int) < (b : Int) := by omega
          go_wp2_with fail
          refine (HI.out q (q + m - i) b _ _ _ (rotLoop m (m - i) (q + m - i - m) d) _ rfl (by omega) rfl hc1 hc2 hb (by omega) ((among_rotLoop _ _ _ _).1.trans hd) S6.out).mono ?_
          rintro e w8 ⟨rfl, s8⟩
          have S8 := hq9 s8
          clear s8
          first
           | (exfalso; omega)
           | (go_wp2
              go_end0
              refine ⟨rfl, KEY.out _ _ ?_ S8.out⟩
              rw [symD3, if_pos ⟨hc1, hc2⟩, symD2, if_neg (by omega), symRot, if_pos ⟨hr1, hr2⟩])
         ·have hc2z : ¬ (q : Int) + (m : Int) - (i : Int) < (b : Int) := by omega
          first
           | (exfalso; omega)
           | (go_wp2
              go_end0
              refine ⟨rfl, KEY.out _ _ ?_ S6.out⟩
              rw [symD3, if_neg (by omega), symD2, if_neg (by omega), symRot, if_pos ⟨hr1, hr2⟩])
        ·have hc1z : ¬ (q : Int) < (q : Int) + (m : Int) - (i : Int) := by omega
         first
          | (exfalso; omega)
          | (go_wp2
             go_end0
             refine ⟨rfl, KEY.out _ _ ?_ S6.out⟩
             rw [symD3, if_neg (by omega), symD2, if_neg (by omega), symRot, if_pos ⟨hr1, hr2⟩])
      ·have ha1z : ¬ (a : Int) < (i : Int) := by omega
       by_cases hc1 : q < q + m - i
       ·have hc1z : (q : Int) < (q : Int) + (m : Int) - (i : Int) := by omega
        by_cases hc2 : q + m - i < b
        ·have hc2z : (q : Int) + (m : Int) - (i : Int) < (b : Int) := by omega
         go_wp2_with fail
         refine (HI.out q (q + m - i) b _ _ _ (rotLoop m (m - i) (q + m - i - m) d) _ rfl (by omega) rfl hc1 hc2 hb (by omega) ((among_rotLoop _ _ _ _).1.trans hd) S6.out).mono ?_
         rintro e w8 ⟨rfl, s8⟩
         have S8 := hq9 s8
         clear s8
         first
          | (exfalso; omega)
          | (go_wp2
             go_end0
             refine ⟨rfl, KEY.out _ _ ?_ S8.out⟩
             rw [symD3, if_pos ⟨hc1, hc2⟩, symD2, if_neg (by omega), symRot, if_pos ⟨hr1, hr2⟩])
        ·have hc2z : ¬ (q : Int) + (m : Int) - (i : Int) < (b : Int) := by omega
         first
          | (exfalso; omega)
          | (go_wp2
             go_end0
             refine ⟨rfl, KEY.out _ _ ?_ S6.out⟩
             rw [symD3, if_neg (by omega), symD2, if_neg (by omega), symRot, if_pos ⟨hr1, hr2⟩])
       ·have hc1z : ¬ (q : Int) < (q : Int) + (m : Int) - (i : Int) := by omega
        first
         | (exfalso; omega)
         | (go_wp2
            go_end0
            refine ⟨rfl, KEY.out _ _ ?_ S6.out⟩
            rw [symD3, if_neg (by omega), symD2, if_neg (by omega), symRot, if_pos ⟨hr1, hr2⟩])
     ·have hr2z : ¬ (m : Int) < (q : Int) + (m : Int) - (i : Int) := by omega
      by_cases ha1 : a < i
      ·have ha1z : (a : Int) < (i : Int) := by omega
       by_cases ha2 : i < q
       ·have ha2z : (i : Int) < (q : Int) := by omega
        go_wp2_with fail
        refine (HI.out a i q _ _ _ (d) _ rfl rfl rfl ha1 ha2 (by omega) (by omega) (hd) S1.out).mono ?_
        rintro e w7 ⟨rfl, s7⟩
        have S7 := hq9 s7
        clear s7
        by_cases hc1 : q < q + m - i
        ·have hc1z : (q : Int) < (q : Int) + (m : Int) - (i : Int) := by omega
         by_cases hc2 : q + m - i < b
         ·have hc2z : (q : Int) + (m : Int) - (i : Int) < (b : Int) := by omega
          go_wp2_with fail
          refine (HI.out q (q + m - i) b _ _ _ (symMerge (ltOf cf) f a i q (d)) _ rfl (by omega) rfl hc1 hc2 hb (by omega) ((among_symMerge _ _ _ _ _ _).1.trans (hd)) S7.out).mono ?_
          rintro e w8 ⟨rfl, s8⟩
          have S8 := hq9 s8
          clear s8
          first
           | (exfalso; omega)
           | (go_wp2
              go_end0
              refine ⟨rfl, KEY.out _ _ ?_ S8.out⟩
              rw [symD3, if_pos ⟨hc1, hc2⟩, symD2, if_pos ⟨ha1, ha2⟩, symRot, if_neg (by omega)])
         ·have hc2z : ¬ (q : Int) + (m : Int) - (i : Int) < (b : Int) := by omega
          first
           | (exfalso; omega)
           | (go_wp2
              go_end0
              refine ⟨rfl, KEY.out _ _ ?_ S7.out⟩
              rw [symD3, if_neg (by omega), symD2, if_pos ⟨ha1, ha2⟩, symRot, if_neg (by omega)])
        ·have hc1z : ¬ (q : Int) < (q : Int) + (m : Int) - (i : Int) := by omega
         first
          | (exfalso; omega)
          | (go_wp2
             go_end0
             refine ⟨rfl, KEY.out _ _ ?_ S7.out⟩
             rw [symD3, if_neg (by omega), symD2, if_pos ⟨ha1, ha2⟩, symRot, if_neg (by omega)])
       ·have ha2z : ¬ (i : Int) < (q : Int) := by omega
        by_cases hc1 : q < q + m - i
        ·have hc1z : (q : Int) < (q : Int) + (m : Int) - (i : Int) := by omega
         by_cases hc2 : q + m - i < b
         ·have hc2z : (q : Int) + (m : Int) - (i : Int) < (b : Int) := by omega
          go_wp2_with fail
          refine (HI.out q (q + m - i) b _ _ _ (d) _ rfl (by omega) rfl hc1 hc2 hb (by omega) (hd) S1.out).mono ?_
          rintro e w8 ⟨rfl, s8⟩
          have S8 := hq9 s8
          clear s8
          first
           | (exfalso; omega)
           | (go_wp2
              go_end0
              refine ⟨rfl, KEY.out _ _ ?_ S8.out⟩
              rw [symD3, if_pos ⟨hc1, hc2⟩, symD2, if_neg (by omega), symRot, if_neg (by omega)])
         ·have hc2z : ¬ (q : Int) + (m : Int) - (i : Int) < (b : Int) := by omega
          first
           | (exfalso; omega)
           | (go_wp2
              go_end0
              refine ⟨rfl, KEY.out _ _ ?_ S1.out⟩
              rw [symD3, if_neg (by omega), symD2, if_neg (by omega), symRot, if_neg (by omega)])
        ·have hc1z : ¬ (q : Int) < (q : Int) + (m : Int) - (i : Int) := by omega
         first
          | (exfalso; omega)
          | (go_wp2
             go_end0
             refine ⟨rfl, KEY.out _ _ ?_ S1.out⟩
             rw [symD3, if_neg (by omega), symD2, if_neg (by omega), symRot, if_neg (by omega)])
      ·have ha1z : ¬ (a : Int) < (i : Int) := by omega
       by_cases hc1 : q < q + m - i
       ·have hc1z : (q : Int) < (q : Int) + (m : Int) - (i : Int) := by omega
        by_cases hc2 : q + m - i < b
        ·have hc2z : (q : Int) + (m : Int) - (i : Int) < (b : Int) := by omega
         go_wp2_with fail
         refine (HI.out q (q + m - i) b _ _ _ (d) _ rfl (by omega) rfl hc1 hc2 hb (by omega) (hd) S1.out).mono ?_
         rintro e w8 ⟨rfl, s8⟩
         have S8 := hq9 s8
         clear s8
         first
          | (exfalso; omega)
          | (go_wp2
             go_end0
             refine ⟨rfl, KEY.out _ _ ?_ S8.out⟩
             rw [symD3, if_pos ⟨hc1, hc2⟩, symD2, if_neg (by omega), symRot, if_neg (by omega)])
        ·have hc2z : ¬ (q : Int) + (m : Int) - (i : Int) < (b : Int) := by omega
         first
          | (exfalso; omega)
          | (go_wp2
             go_end0
             refine ⟨rfl, KEY.out _ _ ?_ S1.out⟩
             rw [symD3, if_neg (by omega), symD2, if_neg (by omega), symRot, if_neg (by omega)])
       ·have hc1z : ¬ (q : Int) < (q : Int) + (m : Int) - (i : Int) := by omega
        first
         | (exfalso; omega)
         | (go_wp2
            go_end0
            refine ⟨rfl, KEY.out _ _ ?_ S1.out⟩
            rw [symD3, if_neg (by omega), symD2, if_neg (by omega), symRot, if_neg (by omega)])
    ·have hr1z : ¬ (i : Int) < (m : Int) := by omega
     by_cases ha1 : a < i
     ·have ha1z : (a : Int) < (i : Int) := by omega
      by_cases ha2 : i < q
      ·have ha2z : (i : Int) < (q : Int) := by omega
       go_wp2_with fail
       refine (HI.out a i q _ _ _ (d) _ rfl rfl rfl ha1 ha2 (by omega) (by omega) (hd) S1.out).mono ?_
       rintro e w7 ⟨rfl, s7⟩
       have S7 := hq9 s7
       clear s7
       by_cases hc1 : q < q + m - i
       ·have hc1z : (q : Int) < (q : Int) + (m : Int) - (i : Int) := by omega
        by_cases hc2 : q + m - i < b
        ·have hc2z : (q : Int) + (m : Int) - (i : Int) < (b : Int) := by omega
         go_wp2_with fail
         refine (HI.out q (q + m - i) b _ _ _ (symMerge (ltOf cf) f a i q (d)) _ rfl (by omega) rfl hc1 hc2 hb (by omega) ((among_symMerge _ _ _ _ _ _).1.trans (hd)) S7.out).mono ?_
         rintro e w8 ⟨rfl, s8⟩
         have S8 := hq9 s8
         clear s8
         first
          | (exfalso; omega)
          | (go_wp2
             go_end0
             refine ⟨rfl, KEY.out _ _ ?_ S8.out⟩
             rw [symD3, if_pos ⟨hc1, hc2⟩, symD2, if_pos ⟨ha1, ha2⟩, symRot, if_neg (by omega)])
        ·have hc2z : ¬ (q : Int) + (m : Int) - (i : Int) < (b : Int) := by omega
         first
          | (exfalso; omega)
          | (go_wp2
             go_end0
             refine ⟨rfl, KEY.out _ _ ?_ S7.out⟩
             rw [symD3, if_neg (by omega), symD2, if_pos ⟨ha1, ha2⟩, symRot, if_neg (by omega)])
       ·have hc1z : ¬ (q : Int) < (q : Int) + (m : Int) - (i : Int) := by omega
        first
         | (exfalso; omega)
         | (go_wp2
            go_end0
            refine ⟨rfl, KEY.out _ _ ?_ S7.out⟩
            rw [symD3, if_neg (by omega), symD2, if_pos ⟨ha1, ha2⟩, symRot, if_neg (by omega)])
      ·have ha2z : ¬ (i : Int) < (q : Int) := by omega
       by_cases hc1 : q < q + m - i
       ·have hc1z : (q : Int) < (q : Int) + (m : Int) - (i : Int) := by omega
        by_cases hc2 : q + m - i < b
        ·have hc2z : (q : Int) + (m : Int) - (i : Int) < (b : Int) := by omega
         go_wp2_with fail
         refine (HI.out q (q + m - i) b _ _ _ (d) _ rfl (by omega) rfl hc1 hc2 hb (by omega) (hd) S1.out).mono ?_
         rintro e w8 ⟨rfl, s8⟩
         have S8 := hq9 s8
         clear s8
         first
          | (exfalso; omega)
          | (go_wp2
             go_end0
             refine ⟨rfl, KEY.out _ _ ?_ S8.out⟩
             rw [symD3, if_pos ⟨hc1, hc2⟩, symD2, if_neg (by omega), symRot, if_neg (by omega)])
        ·have hc2z : ¬ (q : Int) + (m : Int) - (i : Int) < (b : Int) := by omega
         first
          | (exfalso; omega)
          | (go_wp2
             go_end0
             refine ⟨rfl, KEY.out _ _ ?_ S1.out⟩
             rw [symD3, if_neg (by omega), symD2, if_neg (by omega), symRot, if_neg (by omega)])
       ·have hc1z : ¬ (q : Int) < (q : Int) + (m : Int) - (i : Int) := by omega
        first
         | (exfalso; omega)
         | (go_wp2
            go_end0
            refine ⟨rfl, KEY.out _ _ ?_ S1.out⟩
            rw [symD3, if_neg (by omega), symD2, if_neg (by omega), symRot, if_neg (by omega)])
     ·have ha1z : ¬ (a : Int) < (i : Int) := by omega
      by_cases hc1 : q < q + m - i
      ·have hc1z : (q : Int) < (q : Int) + (m : Int) - (i : Int) := by omega
       by_cases hc2 : q + m - i < b
       ·have hc2z : (q : Int) + (m : Int) - (i : Int) < (b : Int) := by omega
        go_wp2_with fail
        refine (HI.out q (q + m - i) b _ _ _ (d) _ rfl (by omega) rfl hc1 hc2 hb (by omega) (hd) S1.out).mono ?_
        rintro e w8 ⟨rfl, s8⟩
        have S8 := hq9 s8
        clear s8
        first
         | (exfalso; omega)
         | (go_wp2
            go_end0
            refine ⟨rfl, KEY.out _ _ ?_ S8.out⟩
            rw [symD3, if_pos ⟨hc1, hc2⟩, symD2, if_neg (by omega), symRot, if_neg (by omega)])
       ·have hc2z : ¬ (q : Int) + (m : Int) - (i : Int) < (b : Int) := by omega
        first
         | (exfalso; omega)
         | (go_wp2
            go_end0
            refine ⟨rfl, KEY.out _ _ ?_ S1.out⟩
            rw [symD3, if_neg (by omega), symD2, if_neg (by omega), symRot, if_neg (by omega)])
      ·have hc1z : ¬ (q : Int) < (q : Int) + (m : Int) - (i : Int) := by omega
       first
        | (exfalso; omega)
        | (go_wp2
           go_end0
           refine ⟨rfl, KEY.out _ _ ?_ S1.out⟩
           rw [symD3, if_neg (by omega), symD2, if_neg (by omega), symRot, if_neg (by omega)])
 ·have hgz : ¬ (q : Int) < (m : Int) := by omega
  have HL : Hid (symFrom a m b = a ∧ symTo a m b = m) := by unfold symFrom symTo; rw [← HQ.out]; exact ⟨if_neg hgt, if_neg hgt⟩
  have HSS : Hid (symAt (ltOf cf) d a m b = bsSym (ltOf cf) d (q + m - 1) (a) (m)) := by show _ = _; unfold symAt; rw [HL.out.1, HL.out.2, ← HQ.out]
  have HSB : Hid (a ≤ symAt (ltOf cf) d a m b ∧ symAt (ltOf cf) d a m b ≤ m) := by have := HSA.out; rw [HL.out.1, HL.out.2] at this; exact this
  go_enter Tryz.func350, Tryz.ntmps350
  go_wp2_with fail
  go_loopg [20, 21] (m) (fun kx si sj wr => ∃ (i j : Nat) (zi zj : Int), si = .int .i64 zi ∧ sj = .int .i64 zj ∧ zi = i ∧ zj = j ∧ a ≤ i ∧ i ≤ j ∧ j ≤ m ∧ j - i ≤ kx ∧ Aside (SWK linkC k w0 blk 0 d wr) ∧ Hid (bsSym (ltOf cf) d (q + m - 1) i j = symAt (ltOf cf) d a m b))
  case atStart => exact ⟨a, m, _, _, rfl, rfl, by have := HB.out; omega, by have := HB.out; omega, by omega, by have := HB.out; have := HQ.out; omega, by omega, by omega, S0, (show Hid _ from HSS.out.symm)⟩
  case round =>
   clear S0
   obtain ⟨i, j, zi, zj, rfl, rfl, rfl, rfl, hmi, hij, hjb, hkx, S1, HE⟩ := hrel
   by_cases hlt : i < j
   ·have hz : (i : Int) < (j : Int) := by omega
    have hbb := HB.out
    have hq2 : 2 * q ≤ a + b ∧ a + b ≤ 2 * q + 1 := by have := HQ.out; omega
    cases hL : ltOf cf d[q + m - 1 - (i + j) / 2]! d[(i + j) / 2]! with
    | true =>
      have HU : Hid (bsSym (ltOf cf) d (q + m - 1) i j = bsSym (ltOf cf) d (q + m - 1) i ((i + j) / 2)) := by show _ = _; conv => lhs; rw [bsSym, if_pos hlt, if_pos hL]
      obtain ⟨h, hh⟩ : ∃ h, h = (i + j) / 2 := ⟨_, rfl⟩
      obtain ⟨t, ht⟩ : ∃ t, t = q + m - 1 - h := ⟨_, rfl⟩
      have hhz : ((i : Int) + (j : Int)) / 2 = (h : Int) := by omega
      have htz : (q : Int) + (m : Int) - 1 - (h : Int) = (t : Int) := by omega
      have hwr : IntKind.i64.wrap ((h : Int) + 1) = (h : Int) + 1 := by rw [IntKind.wrap_i64]; omega
      rw [← hh] at hL HU
      rw [← ht] at hL
      have HH : Hid (h = (i + j) / 2 ∧ t = q + m - 1 - h) := ⟨hh, ht⟩
      have hb1 : i ≤ h ∧ h < j ∧ t < n := by omega
      clear hh ht
      have R := RR.out
      have ea1 : ((t : Int)).toNat = t := by omega
      have pa1 : (0 : Int) ≤ (t : Int) := by omega
      have ba1 : (t : Int) < (n : Int) := by omega
      have ra1 : IntKind.i64.wrap ((t : Int)) = (t : Int) := by rw [IntKind.wrap_i64]; omega
      have ec1 : ((h : Int)).toNat = h := by omega
      have pc1 : (0 : Int) ≤ (h : Int) := by omega
      have bc1 : (h : Int) < (n : Int) := by omega
      have rc1 : IntKind.i64.wrap ((h : Int)) = (h : Int) := by rw [IntKind.wrap_i64]; omega
      obtain ⟨x1, hx1⟩ : ∃ x, x = d[t]! := ⟨_, rfl⟩
      obtain ⟨y1, hy1⟩ : ∃ x, x = d[h]! := ⟨_, rfl⟩
      have l1a := S1.out.ld R (by omega) Tryz.prog (t) (by omega)
      have l1b := S1.out.ld R (by omega) Tryz.prog (h) (by omega)
      rw [← hx1] at l1a
      rw [← hy1] at l1b
      have hc1 := S1.out.cmp HC.out (by omega) x1 y1
      have hv1 : cf x1 y1 < 0 := by rw [hx1, hy1]; exact of_decide_eq_true hL
      have hd1 : decide (cf x1 y1 < 0) = true := decide_eq_true hv1
      clear hx1 hy1
      simp only [Nat.zero_add] at l1a l1b
      have mixed : Tryz.prog.follows Departure.mixedOrders = true := by kernel_rfl
      go_wp2_with fail
      go_quiet_grown (first | (go_at_fn g; refine Calls.grown_of (hc1 _ _)))
      have S2 : Aside (SWK linkC k w0 blk 0 d (grow (wr.drewN nq) osq)) := S1.out.grown nq osq
      clear l1a l1b hc1 S1
      generalize grow (wr.drewN nq) osq = w2 at S2 ⊢
      clear nq osq
      go_wp2_with fail
      go_roundg (h - i)
      case measure => omega
      case rel => exact ⟨i, h, _, _, rfl, rfl, rfl, by omega, by omega, by omega, by omega, by omega, S2, (show Hid _ from HU.out.symm.trans HE.out)⟩
    | false =>
      have HU : Hid (bsSym (ltOf cf) d (q + m - 1) i j = bsSym (ltOf cf) d (q + m - 1) ((i + j) / 2 + 1) j) := by show _ = _; conv => lhs; rw [bsSym, if_pos hlt, if_neg (by rw [hL]; decide)]
      obtain ⟨h, hh⟩ : ∃ h, h = (i + j) / 2 := ⟨_, rfl⟩
      obtain ⟨t, ht⟩ : ∃ t, t = q + m - 1 - h := ⟨_, rfl⟩
      have hhz : ((i : Int) + (j : Int)) / 2 = (h : Int) := by omega
      have htz : (q : Int) + (m : Int) - 1 - (h : Int) = (t : Int) := by omega
      have hwr : IntKind.i64.wrap ((h : Int) + 1) = (h : Int) + 1 := by rw [IntKind.wrap_i64]; omega
      rw [← hh] at hL HU
      rw [← ht] at hL
      have HH : Hid (h = (i + j) / 2 ∧ t = q + m - 1 - h) := ⟨hh, ht⟩
      have hb1 : i ≤ h ∧ h < j ∧ t < n := by omega
      clear hh ht
      have R := RR.out
      have ea1 : ((t : Int)).toNat = t := by omega
      have pa1 : (0 : Int) ≤ (t : Int) := by omega
      have ba1 : (t : Int) < (n : Int) := by omega
      have ra1 : IntKind.i64.wrap ((t : Int)) = (t : Int) := by rw [IntKind.wrap_i64]; omega
      have ec1 : ((h : Int)).toNat = h := by omega
      have pc1 : (0 : Int) ≤ (h : Int) := by omega
      have bc1 : (h : Int) < (n : Int) := by omega
      have rc1 : IntKind.i64.wrap ((h : Int)) = (h : Int) := by rw [IntKind.wrap_i64]; omega
      obtain ⟨x1, hx1⟩ : ∃ x, x = d[t]! := ⟨_, rfl⟩
      obtain ⟨y1, hy1⟩ : ∃ x, x = d[h]! := ⟨_, rfl⟩
      have l1a := S1.out.ld R (by omega) Tryz.prog (t) (by omega)
      have l1b := S1.out.ld R (by omega) Tryz.prog (h) (by omega)
      rw [← hx1] at l1a
      rw [← hy1] at l1b
      have hc1 := S1.out.cmp HC.out (by omega) x1 y1
      have hv1 : ¬ cf x1 y1 < 0 := by rw [hx1, hy1]; exact of_decide_eq_false hL
      have hd1 : decide (cf x1 y1 < 0) = false := decide_eq_false hv1
      clear hx1 hy1
      simp only [Nat.zero_add] at l1a l1b
      have mixed : Tryz.prog.follows Departure.mixedOrders = true := by kernel_rfl
      go_wp2_with fail
      go_quiet_grown (first | (go_at_fn g; refine Calls.grown_of (hc1 _ _)))
      have S2 : Aside (SWK linkC k w0 blk 0 d (grow (wr.drewN nq) osq)) := S1.out.grown nq osq
      clear l1a l1b hc1 S1
      generalize grow (wr.drewN nq) osq = w2 at S2 ⊢
      clear nq osq
      go_wp2_with fail
      go_roundg (j - (h + 1))
      case measure => omega
      case rel => exact ⟨h + 1, j, _, _, rfl, rfl, by omega, rfl, by omega, by omega, by omega, by omega, S2, (show Hid _ from HU.out.symm.trans HE.out)⟩
   ·have hz : ¬ (i : Int) < (j : Int) := by omega
    have hse : symAt (ltOf cf) d a m b = i := by rw [← HE.out, bsSym, if_neg hlt]
    have HEQ2 := HEQ
    have HSB2 := HSB
    rw [hse] at HEQ2 HSB2
    clear hse HE HSS HEQ
    have hbb := HB.out
    have hq2 : 2 * q ≤ a + b ∧ a + b ≤ 2 * q + 1 := by have := HQ.out; omega
    have hsb := HSB2.out
    have wr4 : IntKind.i64.wrap ((q : Int) + (m : Int) - (i : Int)) = (q : Int) + (m : Int) - (i : Int) := by rw [IntKind.wrap_i64]; omega
    have key : ∀ (D : Array Link) (ww : World), D = symD3 (ltOf cf) f q (q + m - i) b (symD2 (ltOf cf) f a i q (symRot d m i (q + m - i))) → SWK linkC k w0 blk 0 D ww → SWK linkC k w0 blk 0 (symMerge (ltOf cf) (f + 1) a m b d) ww := fun D ww hD hS => by rw [HEQ2.out, ← hD]; exact hS
    have KEY := hq9 key
    clear key
    by_cases hr1 : i < m
    ·have hr1z : (i : Int) < (m : Int) := by omega
     by_cases hr2 : m < q + m - i
     ·have hr2z : (m : Int) < (q : Int) + (m : Int) - (i : Int) := by omega
      go_wp2_with fail
      refine (sort_rotate k zE g cb blk cap n d0 d w0 _ RR.out hs hd S1.out hsz i m (q + m - i) _ _ _ rfl rfl (by omega) hr1 hr2 (by omega)).mono ?_
      rintro e w6 ⟨rfl, s6⟩
      have S6 := hq9 s6
      clear s6
      by_cases ha1 : a < i
      ·have ha1z : (a : Int) < (i : Int) := by omega
       by_cases ha2 : i < q
       ·have ha2z : (i : Int) < (q : Int) := by omega
        go_wp2_with fail
        refine (HI.out a i q _ _ _ (rotLoop m (m - i) (q + m - i - m) d) _ rfl rfl rfl ha1 ha2 (by omega) (by omega) ((among_rotLoop _ _ _ _).1.trans hd) S6.out).mono ?_
        rintro e w7 ⟨rfl, s7⟩
        have S7 := hq9 s7
        clear s7
        by_cases hc1 : q < q + m - i
        ·have hc1z : (q : Int) < (q : Int) + (m : Int) - (i : Int) := by omega
         by_cases hc2 : q + m - i < b
         ·have hc2z : (q : Int) + (m : Int) - (i : Int) < (b : Int) := by omega
          go_wp2_with fail
          refine (HI.out q (q + m - i) b _ _ _ (symMerge (ltOf cf) f a i q (rotLoop m (m - i) (q + m - i - m) d)) _ rfl (by omega) rfl hc1 hc2 hb (by omega) ((among_symMerge _ _ _ _ _ _).1.trans ((among_rotLoop _ _ _ _).1.trans hd)) S7.out).mono ?_
          rintro e w8 ⟨rfl, s8⟩
          have S8 := hq9 s8
          clear s8
          first
           | (exfalso; omega)
           | (go_wp2
              go_end0
              refine ⟨rfl, KEY.out _ _ ?_ S8.out⟩
              rw [symD3, if_pos ⟨hc1, hc2⟩, symD2, if_pos ⟨ha1, ha2⟩, symRot, if_pos ⟨hr1, hr2⟩])
         ·have hc2z : ¬ (q : Int) + (m : Int) - (i : Int) < (b : Int) := by omega
          first
           | (exfalso; omega)
           | (go_wp2
              go_end0
              refine ⟨rfl, KEY.out _ _ ?_ S7.out⟩
              rw [symD3, if_neg (by omega), symD2, if_pos ⟨ha1, ha2⟩, symRot, if_pos ⟨hr1, hr2⟩])
        ·have hc1z : ¬ (q : Int) < (q : Int) + (m : Int) - (i : Int) := by omega
         first
          | (exfalso; omega)
          | (go_wp2
             go_end0
             refine ⟨rfl, KEY.out _ _ ?_ S7.out⟩
             rw [symD3, if_neg (by omega), symD2, if_pos ⟨ha1, ha2⟩, symRot, if_pos ⟨hr1, hr2⟩])
       ·have ha2z : ¬ (i : Int) < (q : Int) := by omega
        by_cases hc1 : q < q + m - i
        ·have hc1z : (q : Int) < (q : Int) + (m : Int) - (i : Int) := by omega
         by_cases hc2 : q + m - i < b
         ·have hc2z : (q : Int) + (m : Int) - (i : Int) < (b : Int) := by omega
          go_wp2_with fail
          refine (HI.out q (q + m - i) b _ _ _ (rotLoop m (m - i) (q + m - i - m) d) _ rfl (by omega) rfl hc1 hc2 hb (by omega) ((among_rotLoop _ _ _ _).1.trans hd) S6.out).mono ?_
          rintro e w8 ⟨rfl, s8⟩
          have S8 := hq9 s8
          clear s8
          first
           | (exfalso; omega)
           | (go_wp2
              go_end0
              refine ⟨rfl, KEY.out _ _ ?_ S8.out⟩
              rw [symD3, if_pos ⟨hc1, hc2⟩, symD2, if_neg (by omega), symRot, if_pos ⟨hr1, hr2⟩])
         ·have hc2z : ¬ (q : Int) + (m : Int) - (i : Int) < (b : Int) := by omega
          first
           | (exfalso; omega)
           | (go_wp2
              go_end0
              refine ⟨rfl, KEY.out _ _ ?_ S6.out⟩
              rw [symD3, if_neg (by omega), symD2, if_neg (by omega), symRot, if_pos ⟨hr1, hr2⟩])
        ·have hc1z : ¬ (q : Int) < (q : Int) + (m : Int) - (i : Int) := by omega
         first
          | (exfalso; omega)
          | (go_wp2
             go_end0
             refine ⟨rfl, KEY.out _ _ ?_ S6.out⟩
             rw [symD3, if_neg (by omega), symD2, if_neg (by omega), symRot, if_pos ⟨hr1, hr2⟩])
      ·have ha1z : ¬ (a : Int) < (i : Int) := by omega
       by_cases hc1 : q < q + m - i
       ·have hc1z : (q : Int) < (q : Int) + (m : Int) - (i : Int) := by omega
        by_cases hc2 : q + m - i < b
        ·have hc2z : (q : Int) + (m : Int) - (i : Int) < (b : Int) := by omega
         go_wp2_with fail
         refine (HI.out q (q + m - i) b _ _ _ (rotLoop m (m - i) (q + m - i - m) d) _ rfl (by omega) rfl hc1 hc2 hb (by omega) ((among_rotLoop _ _ _ _).1.trans hd) S6.out).mono ?_
         rintro e w8 ⟨rfl, s8⟩
         have S8 := hq9 s8
         clear s8
         first
          | (exfalso; omega)
          | (go_wp2
             go_end0
             refine ⟨rfl, KEY.out _ _ ?_ S8.out⟩
             rw [symD3, if_pos ⟨hc1, hc2⟩, symD2, if_neg (by omega), symRot, if_pos ⟨hr1, hr2⟩])
        ·have hc2z : ¬ (q : Int) + (m : Int) - (i : Int) < (b : Int) := by omega
         first
          | (exfalso; omega)
          | (go_wp2
             go_end0
             refine ⟨rfl, KEY.out _ _ ?_ S6.out⟩
             rw [symD3, if_neg (by omega), symD2, if_neg (by omega), symRot, if_pos ⟨hr1, hr2⟩])
       ·have hc1z : ¬ (q : Int) < (q : Int) + (m : Int) - (i : Int) := by omega
        first
         | (exfalso; omega)
         | (go_wp2
            go_end0
            refine ⟨rfl, KEY.out _ _ ?_ S6.out⟩
            rw [symD3, if_neg (by omega), symD2, if_neg (by omega), symRot, if_pos ⟨hr1, hr2⟩])
     ·have hr2z : ¬ (m : Int) < (q : Int) + (m : Int) - (i : Int) := by omega
      by_cases ha1 : a < i
      ·have ha1z : (a : Int) < (i : Int) := by omega
       by_cases ha2 : i < q
       ·have ha2z : (i : Int) < (q : Int) := by omega
        go_wp2_with fail
        refine (HI.out a i q _ _ _ (d) _ rfl rfl rfl ha1 ha2 (by omega) (by omega) (hd) S1.out).mono ?_
        rintro e w7 ⟨rfl, s7⟩
        have S7 := hq9 s7
        clear s7
        by_cases hc1 : q < q + m - i
        ·have hc1z : (q : Int) < (q : Int) + (m : Int) - (i : Int) := by omega
         by_cases hc2 : q + m - i < b
         ·have hc2z : (q : Int) + (m : Int) - (i : Int) < (b : Int) := by omega
          go_wp2_with fail
          refine (HI.out q (q + m - i) b _ _ _ (symMerge (ltOf cf) f a i q (d)) _ rfl (by omega) rfl hc1 hc2 hb (by omega) ((among_symMerge _ _ _ _ _ _).1.trans (hd)) S7.out).mono ?_
          rintro e w8 ⟨rfl, s8⟩
          have S8 := hq9 s8
          clear s8
          first
           | (exfalso; omega)
           | (go_wp2
              go_end0
              refine ⟨rfl, KEY.out _ _ ?_ S8.out⟩
              rw [symD3, if_pos ⟨hc1, hc2⟩, symD2, if_pos ⟨ha1, ha2⟩, symRot, if_neg (by omega)])
         ·have hc2z : ¬ (q : Int) + (m : Int) - (i : Int) < (b : Int) := by omega
          first
           | (exfalso; omega)
           | (go_wp2
              go_end0
              refine ⟨rfl, KEY.out _ _ ?_ S7.out⟩
              rw [symD3, if_neg (by omega), symD2, if_pos ⟨ha1, ha2⟩, symRot, if_neg (by omega)])
        ·have hc1z : ¬ (q : Int) < (q : Int) + (m : Int) - (i : Int) := by omega
         first
          | (exfalso; omega)
          | (go_wp2
             go_end0
             refine ⟨rfl, KEY.out _ _ ?_ S7.out⟩
             rw [symD3, if_neg (by omega), symD2, if_pos ⟨ha1, ha2⟩, symRot, if_neg (by omega)])
       ·have ha2z : ¬ (i : Int) < (q : Int) := by omega
        by_cases hc1 : q < q + m - i
        ·have hc1z : (q : Int) < (q : Int) + (m : Int) - (i : Int) := by omega
         by_cases hc2 : q + m - i < b
         ·have hc2z : (q : Int) + (m : Int) - (i : Int) < (b : Int) := by omega
          go_wp2_with fail
          refine (HI.out q (q + m - i) b _ _ _ (d) _ rfl (by omega) rfl hc1 hc2 hb (by omega) (hd) S1.out).mono ?_
          rintro e w8 ⟨rfl, s8⟩
          have S8 := hq9 s8
          clear s8
          first
           | (exfalso; omega)
           | (go_wp2
              go_end0
              refine ⟨rfl, KEY.out _ _ ?_ S8.out⟩
              rw [symD3, if_pos ⟨hc1, hc2⟩, symD2, if_neg (by omega), symRot, if_neg (by omega)])
         ·have hc2z : ¬ (q : Int) + (m : Int) - (i : Int) < (b : Int) := by omega
          first
           | (exfalso; omega)
           | (go_wp2
              go_end0
              refine ⟨rfl, KEY.out _ _ ?_ S1.out⟩
              rw [symD3, if_neg (by omega), symD2, if_neg (by omega), symRot, if_neg (by omega)])
        ·have hc1z : ¬ (q : Int) < (q : Int) + (m : Int) - (i : Int) := by omega
         first
          | (exfalso; omega)
          | (go_wp2
             go_end0
             refine ⟨rfl, KEY.out _ _ ?_ S1.out⟩
             rw [symD3, if_neg (by omega), symD2, if_neg (by omega), symRot, if_neg (by omega)])
      ·have ha1z : ¬ (a : Int) < (i : Int) := by omega
       by_cases hc1 : q < q + m - i
       ·have hc1z : (q : Int) < (q : Int) + (m : Int) - (i : Int) := by omega
        by_cases hc2 : q + m - i < b
        ·have hc2z : (q : Int) + (m : Int) - (i : Int) < (b : Int) := by omega
         go_wp2_with fail
         refine (HI.out q (q + m - i) b _ _ _ (d) _ rfl (by omega) rfl hc1 hc2 hb (by omega) (hd) S1.out).mono ?_
         rintro e w8 ⟨rfl, s8⟩
         have S8 := hq9 s8
         clear s8
         first
          | (exfalso; omega)
          | (go_wp2
             go_end0
             refine ⟨rfl, KEY.out _ _ ?_ S8.out⟩
             rw [symD3, if_pos ⟨hc1, hc2⟩, symD2, if_neg (by omega), symRot, if_neg (by omega)])
        ·have hc2z : ¬ (q : Int) + (m : Int) - (i : Int) < (b : Int) := by omega
         first
          | (exfalso; omega)
          | (go_wp2
             go_end0
             refine ⟨rfl, KEY.out _ _ ?_ S1.out⟩
             rw [symD3, if_neg (by omega), symD2, if_neg (by omega), symRot, if_neg (by omega)])
       ·have hc1z : ¬ (q : Int) < (q : Int) + (m : Int) - (i : Int) := by omega
        first
         | (exfalso; omega)
         | (go_wp2
            go_end0
            refine ⟨rfl, KEY.out _ _ ?_ S1.out⟩
            rw [symD3, if_neg (by omega), symD2, if_neg (by omega), symRot, if_neg (by omega)])
    ·have hr1z : ¬ (i : Int) < (m : Int) := by omega
     by_cases ha1 : a < i
     ·have ha1z : (a : Int) < (i : Int) := by omega
      by_cases ha2 : i < q
      ·have ha2z : (i : Int) < (q : Int) := by omega
       go_wp2_with fail
       refine (HI.out a i q _ _ _ (d) _ rfl rfl rfl ha1 ha2 (by omega) (by omega) (hd) S1.out).mono ?_
       rintro e w7 ⟨rfl, s7⟩
       have S7 := hq9 s7
       clear s7
       by_cases hc1 : q < q + m - i
       ·have hc1z : (q : Int) < (q : Int) + (m : Int) - (i : Int) := by omega
        by_cases hc2 : q + m - i < b
        ·have hc2z : (q : Int) + (m : Int) - (i : Int) < (b : Int) := by omega
         go_wp2_with fail
         refine (HI.out q (q + m - i) b _ _ _ (symMerge (ltOf cf) f a i q (d)) _ rfl (by omega) rfl hc1 hc2 hb (by omega) ((among_symMerge _ _ _ _ _ _).1.trans (hd)) S7.out).mono ?_
         rintro e w8 ⟨rfl, s8⟩
         have S8 := hq9 s8
         clear s8
         first
          | (exfalso; omega)
          | (go_wp2
             go_end0
             refine ⟨rfl, KEY.out _ _ ?_ S8.out⟩
             rw [symD3, if_pos ⟨hc1, hc2⟩, symD2, if_pos ⟨ha1, ha2⟩, symRot, if_neg (by omega)])
        ·have hc2z : ¬ (q : Int) + (m : Int) - (i : Int) < (b : Int) := by omega
         first
          | (exfalso; omega)
          | (go_wp2
             go_end0
             refine ⟨rfl, KEY.out _ _ ?_ S7.out⟩
             rw [symD3, if_neg (by omega), symD2, if_pos ⟨ha1, ha2⟩, symRot, if_neg (by omega)])
       ·have hc1z : ¬ (q : Int) < (q : Int) + (m : Int) - (i : Int) := by omega
        first
         | (exfalso; omega)
         | (go_wp2
            go_end0
            refine ⟨rfl, KEY.out _ _ ?_ S7.out⟩
            rw [symD3, if_neg (by omega), symD2, if_pos ⟨ha1, ha2⟩, symRot, if_neg (by omega)])
      ·have ha2z : ¬ (i : Int) < (q : Int) := by omega
       by_cases hc1 : q < q + m - i
       ·have hc1z : (q : Int) < (q : Int) + (m : Int) - (i : Int) := by omega
        by_cases hc2 : q + m - i < b
        ·have hc2z : (q : Int) + (m : Int) - (i : Int) < (b : Int) := by omega
         go_wp2_with fail
         refine (HI.out q (q + m - i) b _ _ _ (d) _ rfl (by omega) rfl hc1 hc2 hb (by omega) (hd) S1.out).mono ?_
         rintro e w8 ⟨rfl, s8⟩
         have S8 := hq9 s8
         clear s8
         first
          | (exfalso; omega)
          | (go_wp2
             go_end0
             refine ⟨rfl, KEY.out _ _ ?_ S8.out⟩
             rw [symD3, if_pos ⟨hc1, hc2⟩, symD2, if_neg (by omega), symRot, if_neg (by omega)])
        ·have hc2z : ¬ (q : Int) + (m : Int) - (i : Int) < (b : Int) := by omega
         first
          | (exfalso; omega)
          | (go_wp2
             go_end0
             refine ⟨rfl, KEY.out _ _ ?_ S1.out⟩
             rw [symD3, if_neg (by omega), symD2, if_neg (by omega), symRot, if_neg (by omega)])
       ·have hc1z : ¬ (q : Int) < (q : Int) + (m : Int) - (i : Int) := by omega
        first
         | (exfalso; omega)
         | (go_wp2
            go_end0
            refine ⟨rfl, KEY.out _ _ ?_ S1.out⟩
            rw [symD3, if_neg (by omega), symD2, if_neg (by omega), symRot, if_neg (by omega)])
     ·have ha1z : ¬ (a : Int) < (i : Int) := by omega
      by_cases hc1 : q < q + m - i
      ·have hc1z : (q : Int) < (q : Int) + (m : Int) - (i : Int) := by omega
       by_cases hc2 : q + m - i < b
       ·have hc2z : (q : Int) + (m : Int) - (i : Int) < (b : Int) := by omega
        go_wp2_with fail
        refine (HI.out q (q + m - i) b _ _ _ (d) _ rfl (by omega) rfl hc1 hc2 hb (by omega) (hd) S1.out).mono ?_
        rintro e w8 ⟨rfl, s8⟩
        have S8 := hq9 s8
        clear s8
        first
         | (exfalso; omega)
         | (go_wp2
            go_end0
            refine ⟨rfl, KEY.out _ _ ?_ S8.out⟩
            rw [symD3, if_pos ⟨hc1, hc2⟩, symD2, if_neg (by omega), symRot, if_neg (by omega)])
       ·have hc2z : ¬ (q : Int) + (m : Int) - (i : Int) < (b : Int) := by omega
        first
         | (exfalso; omega)
         | (go_wp2
            go_end0
            refine ⟨rfl, KEY.out _ _ ?_ S1.out⟩
            rw [symD3, if_neg (by omega), symD2, if_neg (by omega), symRot, if_neg (by omega)])
      ·have hc1z : ¬ (q : Int) < (q : Int) + (m : Int) - (i : Int) := by omega
       first
        | (exfalso; omega)
        | (go_wp2
           go_end0
           refine ⟨rfl, KEY.out _ _ ?_ S1.out⟩
           rw [symD3, if_neg (by omega), symD2, if_neg (by omega), symRot, if_neg (by omega)])
theorem sort_symMerge (cf : Link → Link → Int) (k : Nat) (zE : ∀ w, (Go.sizeOf 70).run Tryz.prog w = .ok k w) (g : Nat) (cb : Array Value) (blk cap n : Nat) (d0 : Array Link) (w0 : World) (R : RowK linkC k w0 blk 0 d0) (hs : d0.size = n) (hsz : n ≤ 100000) (eg : ∀ args w, (callFunc g args).run Tryz.prog w = .ok (.enter g args) w) (hcmp : CmpLays Tryz.prog g cb linkC k cf blk 0 n w0) : ∀ (f a m b : Nat) (za zm zb : Int) (d : Array Link) (w : World), za = a → zm = m → zb = b → a < m → m < b → b ≤ n → b - a ≤ f → d.size = n → SWK linkC k w0 blk 0 d w →
  Calls Tryz.prog 350 #[.slice (some ⟨blk, 0, none⟩) n cap, .int .i64 za, .int .i64 zm, .int .i64 zb, .func (.func g) #[] cb] w fun e w' => e = .returned (.tuple #[]) ∧ SWK linkC k w0 blk 0 (symMerge (ltOf cf) f a m b d) w'
 | 0, a, m, b, _, _, _, _, _, _, _, _, h1, h2, _, h3, _, _ => by omega
 | f + 1, a, m, b, za, zm, zb, d, w, hza, hzm, hzb, ham, hmb, hb, hf, hd, S => by
   by_cases h1 : m - a = 1
   ·rw [show symMerge (ltOf cf) (f + 1) a m b d = goUp (bsLow (ltOf cf) d a m b) a d by rw [symMerge, if_pos h1]]
    exact symMerge_low cf k zE g cb blk cap n d0 w0 R hs hsz eg hcmp a m b za zm zb d w hza hzm hzb ham hmb hb hd S h1
   ·by_cases h2 : b - m = 1
    ·rw [show symMerge (ltOf cf) (f + 1) a m b d = goDown (bsHigh (ltOf cf) d m a m) m d by rw [symMerge, if_neg h1, if_pos h2]]
     exact symMerge_high cf k zE g cb blk cap n d0 w0 R hs hsz eg hcmp a m b za zm zb d w hza hzm hzb ham hmb hb hd S h1 h2
    ·exact symMerge_deep cf k zE g cb blk cap n d0 w0 R hs hsz eg hcmp f (sort_symMerge cf k zE g cb blk cap n d0 w0 R hs hsz eg hcmp f) a m b za zm zb d w hza hzm hzb ham hmb hb hd S h1 h2 hf
end Go.Proofs.YtlggichakafkiaaGreat
namespace Go.Proofs.YtlggichakafkiaaGreat
open Go.BigFrame Go.RowKit Go.Proofs.FuMem Go.Proofs.FuTop Go.Sort Go.Lib Go.Shelf
set_option maxRecDepth 100000
theorem sort_insertion (cf : Link → Link → Int) (hO : SWO (ltOf cf)) (k : Nat) (zE : ∀ w, (Go.sizeOf 70).run Tryz.prog w = .ok k w) (g : Nat) (cb : Array Value) (blk cap n : Nat) (d0 d : Array Link) (w0 w : World) (R : RowK linkC k w0 blk 0 d0) (hs : d0.size = n) (hd : d.size = n) (S : SWK linkC k w0 blk 0 d w) (hsz : n ≤ 100000) (eg : ∀ args w, (callFunc g args).run Tryz.prog w = .ok (.enter g args) w) (hcmp : CmpLays Tryz.prog g cb linkC k cf blk 0 n w0) (a b : Nat) (za zb : Int) (hza : za = a) (hzb : zb = b) (hab : a ≤ b) (hb : b ≤ n) :
  Calls Tryz.prog 222 #[.slice (some ⟨blk, 0, none⟩) n cap, .int .i64 za, .int .i64 zb, .func (.func g) #[] cb] w fun e w' => e = .returned (.tuple #[]) ∧ SWK linkC k w0 blk 0 (insertionSort (ltOf cf) d a b) w' := by
 subst hza hzb
 subst hd
 exact AnyQ.insertionSortCmpFunc_w { laysSortLink with } k Tryz.isAgg70 zE linkC cf g cb blk 0 cap a b d0 d w0 w eg (by rw [hs]; exact hcmp) R hs S hO hab hb (by omega)
set_option maxHeartbeats 16000000 in
theorem sort_stable (cf : Link → Link → Int) (hO : SWO (ltOf cf)) (k : Nat) (zE : ∀ w, (Go.sizeOf 70).run Tryz.prog w = .ok k w) (g : Nat) (cb : Array Value) (blk cap n : Nat) (d0 d : Array Link) (w0 w : World) (R : RowK linkC k w0 blk 0 d0) (hs : d0.size = n) (hd : d.size = n) (S : SWK linkC k w0 blk 0 d w) (hsz : n ≤ 100000) (eg : ∀ args w, (callFunc g args).run Tryz.prog w = .ok (.enter g args) w) (hcmp : CmpLays Tryz.prog g cb linkC k cf blk 0 n w0) :
  Calls Tryz.prog 299 #[.slice (some ⟨blk, 0, none⟩) n cap, .int .i64 n, .func (.func g) #[] cb] w fun e w' => e = .returned (.tuple #[]) ∧ SWK linkC k w0 blk 0 (stable (ltOf cf) d) w' := by
 have S0 : Aside (SWK linkC k w0 blk 0 d w) := S
 have HC : Aside _ := hcmp
 have RR := hq9 R
 have EG := hq9 eg
 have HST : Hid (stable (ltOf cf) d = mergeAll (ltOf cf) 20 n (insBlocks (ltOf cf) n 0 d)) := by show _ = _; unfold stable; rw [hd]
 clear S hcmp R eg
 go_enter Tryz.func299, Tryz.ntmps299
 go_wp2_with fail
 go_loopg [7, 8] (n + 1) (fun kx sa sb wr => ∃ (a : Nat) (zb : Int) (dk : Array Link), sa = .int .i64 a ∧ sb = .int .i64 zb ∧ zb = (a : Int) + 20 ∧ a ≤ n ∧ n - a ≤ kx ∧ dk.size = n ∧ Aside (SWK linkC k w0 blk 0 dk wr) ∧ Hid (insBlocks (ltOf cf) n a dk = insBlocks (ltOf cf) n 0 d))
 case atStart => exact ⟨0, 20, d, rfl, rfl, rfl, by omega, by omega, hd, S0, rfl⟩
 case round =>
  clear S0
  obtain ⟨a, zb, dk, rfl, rfl, rfl, han, hkx, hds, S1, HE⟩ := hrel
  have wr0 : IntKind.i64.wrap ((a : Int) + 20 + 20) = (a : Int) + 20 + 20 := by rw [IntKind.wrap_i64]; omega
  by_cases hlt : a + 20 ≤ n
  ·have hz : (a : Int) + 20 ≤ (n : Int) := by omega
   have HU : Hid (insBlocks (ltOf cf) n a dk = insBlocks (ltOf cf) n (a + 20) (insertionSort (ltOf cf) dk a (a + 20))) := by show _ = _; conv => lhs; rw [insBlocks, if_pos hlt]
   go_wp2_with fail
   refine (sort_insertion cf hO k zE g cb blk cap n d0 dk w0 _ RR.out hs hds S1.out hsz EG.out HC.out a (a + 20) _ _ rfl (by omega) (by omega) hlt).mono ?_
   rintro e w2 ⟨rfl, s2⟩
   have S2 : Aside (SWK linkC k w0 blk 0 (insertionSort (ltOf cf) dk a (a + 20)) w2) := s2
   clear s2 S1
   go_wp2
   go_roundg (n - (a + 20))
   case measure => omega
   case rel => exact ⟨a + 20, _, _, by first | rfl | go_num, rfl, by omega, hlt, by omega, (among_insertionSort (ltOf cf) a (a + 20) dk (by omega)).1.trans hds, S2, (show Hid _ from HU.out.symm.trans HE.out)⟩
  ·have hz : ¬ (a : Int) + 20 ≤ (n : Int) := by omega
   have HU : Hid (insertionSort (ltOf cf) dk a n = insBlocks (ltOf cf) n 0 d) := by show _ = _; rw [← HE.out, insBlocks, if_neg hlt]
   go_wp2_with fail
   refine (sort_insertion cf hO k zE g cb blk cap n d0 dk w0 _ RR.out hs hds S1.out hsz EG.out HC.out a n _ _ rfl rfl han (Nat.le_refl _)).mono ?_
   rintro e w2 ⟨rfl, s2⟩
   have S2 : Aside (SWK linkC k w0 blk 0 (insertionSort (ltOf cf) dk a n) w2) := s2
   clear s2 S1
   have hd2 : (insertionSort (ltOf cf) dk a n).size = n := (among_insertionSort (ltOf cf) a n dk (by omega)).1.trans hds
   have HST2 : Hid (mergeAll (ltOf cf) 20 n (insertionSort (ltOf cf) dk a n) = stable (ltOf cf) d) := by show _ = _; rw [HU.out, HST.out]
   generalize insertionSort (ltOf cf) dk a n = d2 at *
   clear HU HE HST hds
   go_wp2_with fail
   go_loopg [6] n (fun kx ss wr => ∃ (s : Nat) (zs : Int) (dk : Array Link), ss = .int .i64 zs ∧ zs = s ∧ 0 < s ∧ s ≤ 200000 ∧ n - s ≤ kx ∧ dk.size = n ∧ Aside (SWK linkC k w0 blk 0 dk wr) ∧ Hid (mergeAll (ltOf cf) s n dk = stable (ltOf cf) d))
   case atStart => exact ⟨20, 20, d2, rfl, rfl, by omega, by omega, by omega, hd2, S2, HST2⟩
   case round =>
    clear S2 HST2 hd2
    obtain ⟨s, zs, dk, rfl, rfl, hs0, hs2, hkx2, hds, S1, HE⟩ := hrel
    have wr1 : IntKind.i64.wrap (2 * (s : Int)) = 2 * (s : Int) := by rw [IntKind.wrap_i64]; omega
    have wr2 : IntKind.i64.wrap ((s : Int) * 2) = (s : Int) * 2 := by rw [IntKind.wrap_i64]; omega
    by_cases hlt2 : s < n
    ·have hz2 : (s : Int) < (n : Int) := by omega
     have HU : Hid (mergeAll (ltOf cf) s n dk = mergeAll (ltOf cf) (s * 2) n (mergeRow (ltOf cf) s n 0 dk)) := by show _ = _; conv => lhs; rw [mergeAll, if_pos ⟨hs0, hlt2⟩]
     go_wp2_with fail
     go_loopg [7, 8] n (fun ky sa sb wr => ∃ (a : Nat) (za zb : Int) (dj : Array Link), sa = .int .i64 za ∧ sb = .int .i64 zb ∧ za = a ∧ zb = (a : Int) + 2 * (s : Int) ∧ a ≤ n ∧ n - a ≤ ky ∧ dj.size = n ∧ Aside (SWK linkC k w0 blk 0 dj wr) ∧ Hid (mergeRow (ltOf cf) s n a dj = mergeRow (ltOf cf) s n 0 dk))
     case atStart => exact ⟨0, 0, _, dk, rfl, rfl, rfl, by omega, by omega, by omega, hds, S1, rfl⟩
     case round =>
      clear S1
      obtain ⟨a, za, zb, dj, rfl, rfl, rfl, rfl, han, hky, hdj, S3, HF⟩ := hrel
      have wr3 : IntKind.i64.wrap ((a : Int) + (s : Int)) = (a : Int) + (s : Int) := by rw [IntKind.wrap_i64]; omega
      have wr4 : IntKind.i64.wrap ((a : Int) + 2 * (s : Int) + 2 * (s : Int)) = (a : Int) + 2 * (s : Int) + 2 * (s : Int) := by rw [IntKind.wrap_i64]; omega
      by_cases h3 : a + 2 * s ≤ n
      ·have hz3 : (a : Int) + 2 * (s : Int) ≤ (n : Int) := by omega
       have HV : Hid (mergeRow (ltOf cf) s n a dj = mergeRow (ltOf cf) s n (a + 2 * s) (symMerge (ltOf cf) (2 * s) a (a + s) (a + 2 * s) dj)) := by show _ = _; conv => lhs; rw [mergeRow, if_pos ⟨hs0, h3⟩]
       go_wp2_with fail
       refine (sort_symMerge cf k zE g cb blk cap n d0 w0 RR.out hs hsz EG.out HC.out (2 * s) a (a + s) (a + 2 * s) _ _ _ dj _ rfl (by omega) (by omega) (by omega) (by omega) h3 (by omega) hdj S3.out).mono ?_
       rintro e w4 ⟨rfl, s4⟩
       have S4 : Aside (SWK linkC k w0 blk 0 (symMerge (ltOf cf) (2 * s) a (a + s) (a + 2 * s) dj) w4) := s4
       clear s4 S3
       go_wp2
       go_roundg (n - (a + 2 * s))
       case measure => omega
       case rel => exact ⟨a + 2 * s, _, _, _, rfl, rfl, by omega, by omega, h3, by omega, (among_symMerge _ _ _ _ _ _).1.trans hdj, S4, (show Hid _ from HV.out.symm.trans HF.out)⟩
      ·have hz3 : ¬ (a : Int) + 2 * (s : Int) ≤ (n : Int) := by omega
       by_cases h4 : a + s < n
       ·have hz4 : (a : Int) + (s : Int) < (n : Int) := by omega
        have HV : Hid (mergeRow (ltOf cf) s n 0 dk = symMerge (ltOf cf) (n - a) a (a + s) n dj) := by show _ = _; rw [← HF.out, mergeRow, if_neg (by omega), if_pos h4]
        go_wp2_with fail
        refine (sort_symMerge cf k zE g cb blk cap n d0 w0 RR.out hs hsz EG.out HC.out (n - a) a (a + s) n _ _ _ dj _ rfl (by omega) rfl (by omega) h4 (Nat.le_refl _) (by omega) hdj S3.out).mono ?_
        rintro e w4 ⟨rfl, s4⟩
        have S4 : Aside (SWK linkC k w0 blk 0 (symMerge (ltOf cf) (n - a) a (a + s) n dj) w4) := s4
        clear s4 S3
        go_wp2
        go_roundg (n - s * 2)
        case measure => omega
        case rel => exact ⟨s * 2, _, _, rfl, by omega, by omega, by omega, by omega, (among_symMerge _ _ _ _ _ _).1.trans hdj, S4, (show Hid _ from by show _ = _; rw [← HV.out, ← HU.out]; exact HE.out)⟩
       ·have hz4 : ¬ (a : Int) + (s : Int) < (n : Int) := by omega
        have HV : Hid (mergeRow (ltOf cf) s n 0 dk = dj) := by show _ = _; rw [← HF.out, mergeRow, if_neg (by omega), if_neg h4]
        go_wp2
        go_roundg (n - s * 2)
        case measure => omega
        case rel => exact ⟨s * 2, _, dj, rfl, by omega, by omega, by omega, by omega, hdj, S3, (show Hid _ from by show _ = _; rw [← HV.out, ← HU.out]; exact HE.out)⟩
    ·have hz2 : ¬ (s : Int) < (n : Int) := by omega
     go_wp2
     go_end0
     refine ⟨rfl, ?_⟩
     rw [← HE.out, mergeAll, if_neg (by omega)]
     exact S1.out
theorem sort_stableFunc (cf : Link → Link → Int) (hO : SWO (ltOf cf)) (k : Nat) (zE : ∀ w, (Go.sizeOf 70).run Tryz.prog w = .ok k w) (g : Nat) (cb : Array Value) (blk cap n : Nat) (d0 d : Array Link) (w0 w : World) (R : RowK linkC k w0 blk 0 d0) (hs : d0.size = n) (hd : d.size = n) (S : SWK linkC k w0 blk 0 d w) (hsz : n ≤ 100000) (eg : ∀ args w, (callFunc g args).run Tryz.prog w = .ok (.enter g args) w) (hcmp : CmpLays Tryz.prog g cb linkC k cf blk 0 n w0) :
  Calls Tryz.prog 244 #[.slice (some ⟨blk, 0, none⟩) n cap, .func (.func g) #[] cb] w fun e w' => e = .returned (.tuple #[]) ∧ SWK linkC k w0 blk 0 (stable (ltOf cf) d) w' := by
 have HS := hq9 (sort_stable cf hO k zE g cb blk cap n d0 d w0 w R hs hd S hsz eg hcmp)
 generalize stable (ltOf cf) d = d9 at *
 clear S hcmp R eg
 go_enter Tryz.func244, Tryz.ntmps244
 go_wp2_with fail
 refine HS.out.mono ?_
 rintro e w2 ⟨rfl, s2⟩
 have S2 := hq9 s2
 clear s2
 go_wp2
 go_end0
 exact ⟨rfl, S2.out⟩
end Go.Proofs.YtlggichakafkiaaGreat
namespace Go.Proofs.FuTop
open Go.Sort
def cmpV (x y : Link) : Int := if x.ver < y.ver then -1 else if y.ver < x.ver then 1 else 0
theorem ltV (x y : Link) : ltOf cmpV x y = decide (x.ver < y.ver) := by
 unfold ltOf cmpV
 by_cases h : x.ver < y.ver
 ·simp [h]
 ·rw [if_neg h]
  split <;> simp [h]
theorem swoV : SWO (ltOf cmpV) where
 irrefl x := by rw [ltV]; simp
 trans x y z h1 h2 := by
  rw [ltV, decide_eq_true_eq] at *
  omega
 ntrans x y z h1 h2 := by
  rw [ltV, decide_eq_false_iff_not] at *
  omega
def srtL (L : List Link) : List Link := stableL (ltOf cmpV) L
theorem srtL_mem {L : List Link} {k : Link} (h : k ∈ srtL L) : k ∈ L := stableL_mem _ h
theorem srtL_len (L : List Link) : (srtL L).length = L.length := stableL_len _ _
theorem srtL_nil : srtL [] = [] := List.length_eq_zero_iff.1 (srtL_len [])
end Go.Proofs.FuTop
namespace Go.Proofs.YtlggichakafkiaaGreat
open Go.BigFrame Go.RowKit Go.Proofs.FuMem Go.Proofs.FuTop Go.Sort Go.Lib
set_option maxRecDepth 100000
set_option maxHeartbeats 1600000 in
theorem over_cmp (x y : FuTop.Link) (W : World) : Calls Tryz.prog 245 #[linkV x, linkV y] W fun e w' => e = .returned (.int .i64 (cmpV x y)) ∧ ∃ q os', w' = grow (W.drewN q) os' := by
 unfold linkV linkC
 have HC := hq9 (show cmpV x y = if x.ver < y.ver then -1 else if y.ver < x.ver then 1 else 0 from rfl)
 generalize cmpV x y = r at *
 by_cases h1 : x.ver < y.ver
 ·have q1 : decide ((x.ver : Int) < (y.ver : Int)) = true := by go_num
  have q1b : (x.ver : Int) < (y.ver : Int) := by omega
  have HR := hq9 (show r = -1 by rw [HC.out, if_pos h1])
  go_enter Tryz.func245, Tryz.ntmps245
  go_wp2
  go_ret
  exact ⟨by rw [HR.out]; rfl, 0, _, by rw [alloc_eq_grow, alloc_eq_grow, grow_grow]; rfl⟩
 ·by_cases h2 : y.ver < x.ver
  ·have q1 : decide ((x.ver : Int) < (y.ver : Int)) = false := by go_num
   have q2 : decide ((x.ver : Int) > (y.ver : Int)) = true := by go_num
   have q2b : (y.ver : Int) < (x.ver : Int) := by omega
   have HR := hq9 (show r = 1 by rw [HC.out, if_neg h1, if_pos h2])
   go_enter Tryz.func245, Tryz.ntmps245
   go_wp2
   go_ret
   exact ⟨by rw [HR.out]; rfl, 0, _, by rw [alloc_eq_grow, alloc_eq_grow, grow_grow]; rfl⟩
  ·have q1 : decide ((x.ver : Int) < (y.ver : Int)) = false := by go_num
   have q2 : decide ((x.ver : Int) > (y.ver : Int)) = false := by go_num
   have HR := hq9 (show r = 0 by rw [HC.out, if_neg h1, if_neg h2])
   go_enter Tryz.func245, Tryz.ntmps245
   go_wp2
   go_ret
   exact ⟨by rw [HR.out]; rfl, 0, _, by rw [alloc_eq_grow, alloc_eq_grow, grow_grow]; rfl⟩
theorem sort_waits (g n c : Nat) (L : List FuTop.Link) (w : World) (h : RowS 70 5 w (.slice (some ⟨g, 0, none⟩) n c) (L.map linkC)) (hn : L.length ≤ 100000) :
  Calls Tryz.prog 244 #[.slice (some ⟨g, 0, none⟩) n c, .func (.func 245) #[] #[]] w fun e w' => e = .returned (.tuple #[]) ∧ RowS 70 5 w' (.slice (some ⟨g, 0, none⟩) n c) ((srtL L).map linkC) ∧ Only [g] w w' := by
 have hl : n = L.length := by simpa using h.sl.1
 have hh : RowS 70 5 w (.slice (some ⟨g, 0, none⟩) n c) (L.toArray.toList.map linkC) := by simpa using h
 have H : HoldsK linkC 5 w g 0 L.toArray := holdsK_of_rows linkC_len hh
 have hd : L.toArray.size = n := by simp [hl]
 refine (sort_stableFunc cmpV swoV 5 Tryz.sizeOf70 245 #[] g c n L.toArray L.toArray w w ⟨linkC_len, linkC_one, H, h.lt g rfl⟩ hd hd (SWK.start H) (by omega) (enters_of Tryz.func245 (by kernel_rfl) rfl) (fun _ _ _ _ x y => over_cmp x y _)).mono ?_
 rintro e w' ⟨rfl, m, os, rfl⟩
 refine ⟨rfl, ?_, sortWorld_only _ _ _ _ _⟩
 exact rows_sorted linkC_len hh (among_stable (ltOf cmpV) L.toArray).1 m os
theorem stable_none (fv : Value) (w : World) :
  Calls Tryz.prog 299 #[.slice none 0 0, .int .i64 0, fv] w fun e w' => e = .returned (.tuple #[]) ∧ w' = w := by
 have HI := hq9 (fun w => AnyF.insertionSortCmpFunc_none (P := Tryz.prog) (ρ := _) { laysSortLink with } none 0 fv w)
 go_enter Tryz.func299, Tryz.ntmps299
 go_wp2
 refine wp_loop_rounds 1 ?_
 rw [rounds_succ]
 go_wp2_with fail
 refine (HI.out _).mono ?_
 rintro e w' ⟨rfl, rfl⟩
 go_wp2
 refine wp_loop_rounds 1 ?_
 rw [rounds_succ]
 go_wp2
 go_end0
 exact ⟨rfl, rfl⟩
theorem sort_waits_none (fv : Value) (w : World) :
  Calls Tryz.prog 244 #[.slice none 0 0, fv] w fun e w' => e = .returned (.tuple #[]) ∧ w' = w := by
 go_enter Tryz.func244, Tryz.ntmps244
 go_wp2_with fail
 refine (stable_none _ _).mono ?_
 rintro e w' ⟨rfl, rfl⟩
 go_wp2
 go_end0
 exact ⟨rfl, rfl⟩
end Go.Proofs.YtlggichakafkiaaGreat