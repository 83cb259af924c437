/- Law 27, plain: what is unlike; what a device loaded of another one's image holds. -/
import Derived.Test.YtkbgoloedlpflaaGImageBack1
import Derived.Test.YtkbgoloedlpflaaGImageBack2
import Derived.Test.YtkbgoloedlpflaaGImageBack3
import Derived.Test.YtkbgoloedlpflaaGImageBack4
import Derived.Test.YtkbgoloedlpflaaGImageBack5
namespace Go.Proofs.Ytkbgoloedlpflaa
open Go.RowKit Go.Proofs.FuMem Go.Proofs.FuNvm Go.Proofs.FuCode Go.Proofs.FuCrc Go.Proofs.FuImg
theorem unlike_comm (D E : Dev) : unlike D E = unlike E D := by
  unfold unlike unlikeTo
  rw [Nat.max_comm]
  congr 1
  refine List.filter_congr fun i _ => ?_
  exact decide_eq_decide.2 ⟨fun h e => h e.symm, fun h e => h e.symm⟩
theorem unlike_nil_iff (D E : Dev) : unlike D E = [] ↔ ∀ i, i < max D.lines.length E.lines.length → keptAt D i = keptAt E i := by
  unfold unlike unlikeTo
  rw [List.map_eq_nil_iff, List.filter_eq_nil_iff]
  constructor
  · intro h i hi
    have := h i (List.mem_range.2 hi)
    simpa using this
  · intro h i hi
    have := h i (List.mem_range.1 hi)
    simpa using this
theorem unlike_self (D : Dev) : unlike D D = [] := (unlike_nil_iff D D).2 fun _ _ => rfl
theorem unlike_len {D E : Dev} (h : unlike D E = []) : D.lines.length = E.lines.length := by
  rw [unlike_nil_iff] at h
  rcases Nat.lt_trichotomy D.lines.length E.lines.length with h1 | h1 | h1
  · have := h D.lines.length (by omega)
    unfold keptAt at this
    rw [List.getElem?_eq_none (Nat.le_refl _), List.getElem?_eq_getElem h1] at this
    cases this
  · exact h1
  · have := h E.lines.length (by omega)
    unfold keptAt at this
    rw [List.getElem?_eq_none (Nat.le_refl _), List.getElem?_eq_getElem h1] at this
    cases this
theorem same_eq (D E : Dev) : decide (D.lines.length = E.lines.length ∧ unlike D E = []) = decide (((unlike D E).length : Int) = 0) := by
  refine decide_eq_decide.2 ⟨fun h => by rw [h.2]; rfl, fun h => ?_⟩
  have h2 : unlike D E = [] := List.length_eq_zero_iff.1 (by omega)
  exact ⟨unlike_len h2, h2⟩
theorem same_self (D : Dev) : decide (D.lines.length = D.lines.length ∧ unlike D D = []) = true := decide_eq_true ⟨rfl, unlike_self D⟩
theorem mem_items {L : List Line} {k : Nat} {p : Nat × List UInt8} : p ∈ items L k ↔ ∃ x, p.1 < k ∧ L[p.1]? = some x ∧ x.kept ≠ zrow ∧ p.2 = x.kept := by
  unfold items
  rw [List.mem_filterMap]
  constructor
  · rintro ⟨i, hi, h⟩
    cases hx : L[i]? with
    | none => rw [hx] at h; cases h
    | some x =>
      rw [hx] at h
      simp only at h
      split at h
      · cases h
      · rename_i hz
        cases h
        exact ⟨x, List.mem_range.1 hi, hx, hz, rfl⟩
  · rintro ⟨x, hi, hx, hz, e⟩
    refine ⟨p.1, List.mem_range.2 hi, ?_⟩
    rw [hx]
    simp only
    rw [if_neg hz, ← e]
theorem fold_kept {D : Dev} (hok : AllOk D.lines) {i : Nat} {x : Line} (hx : D.lines[i]? = some x) : ∃ y, (foldD D.lines.length (itemsD D)).lines[i]? = some y ∧ y.now = x.kept ∧ y.kept = x.kept := by
  have hi : i < D.lines.length := by
    rcases Nat.lt_or_ge i D.lines.length with h | h
    · exact h
    · rw [List.getElem?_eq_none h] at hx
      cases hx
  obtain ⟨y, hy, _, e1, _, e3⟩ := foldD_get (n := D.lines.length) (items_64 hok D.lines.length) hi
  have e : y.kept = x.kept := by
    rcases e3 with ⟨p, hp, hpi, hp2⟩ | ⟨h1, h2⟩
    · obtain ⟨z, _, hz, _, hz2⟩ := mem_items.1 hp
      rw [hpi, hx] at hz
      cases hz
      rw [← hp2, hz2]
    · rw [h2]
      by_cases hz : x.kept = zrow
      · exact hz.symm
      · exact absurd rfl (h1 (i, x.kept) (mem_items.2 ⟨x, hi, hx, hz, rfl⟩))
  exact ⟨y, hy, e1.trans e, e⟩
theorem fold_unlike {D : Dev} (hok : AllOk D.lines) : unlike (foldD D.lines.length (itemsD D)) D = [] := by
  rw [unlike_nil_iff, foldD_len]
  intro i hi
  have hi : i < D.lines.length := by omega
  obtain ⟨y, hy, _, e⟩ := fold_kept hok (List.getElem?_eq_getElem hi)
  unfold keptAt
  rw [hy, List.getElem?_eq_getElem hi]
  simp [e]
theorem fold_img {D : Dev} (hok : AllOk D.lines) : imgOf (foldD D.lines.length (itemsD D)) = imgOf D := by
  have hg := items_good (L := D.lines) D.lines.length D.lines.length (Nat.le_refl _)
  unfold imgOf
  rw [foldD_len, items_fold hg.1 (items_64 hok _)]
theorem cut0_get {D : Dev} {i : Nat} {x : Line} (hx : D.lines[i]? = some x) : ∃ y, (cutD D []).lines[i]? = some y ∧ y.now = x.kept := by
  refine ⟨cutL [] i x, ?_, ?_⟩
  · unfold cutD
    simp only [List.getElem?_mapIdx, hx, Option.map_some]
  · unfold cutL
    rw [if_neg (by simp)]
theorem cut0_len (D : Dev) : (cutD D []).lines.length = D.lines.length := by
  unfold cutD
  simp
end Go.Proofs.Ytkbgoloedlpflaa
/- Law 27: a device that is loaded of another one's image; the walk of ImageBack. -/
set_option maxRecDepth 100000
namespace Go.Proofs.Ytkbgoloedlpflaa
open Go.RowKit Go.Proofs.FuMem Go.Proofs.FuNvm Go.Proofs.FuCode Go.Proofs.FuCrc Go.Proofs.FuImg
/-- what a device C tells that was loaded of D's image, and D behind a cut -/
structure BackOf (D C : Dev) : Prop where
  len : C.lines.length = D.lines.length
  same : decide (C.lines.length = D.lines.length ∧ unlike C D = []) = true
  img : imgOf C = imgOf D
  loose : those (fun x => x.now != x.kept) C.lines C.lines.length = []
  line : ∀ k, k < D.lines.length → ∃ (y z : Line) (r : List UInt8), C.lines[k]? = some y ∧ (cutD D []).lines[k]? = some z ∧ y.now = r ∧ y.kept = r ∧ z.now = r ∧ r.length = 64
theorem backOf {D : Dev} (hok : AllOk D.lines) (h1 : 1 ≤ D.lines.length) (h2 : D.lines.length ≤ 258) : ∃ C, loadP (imgOf D) = some C ∧ BackOf D C := by
  have hl := load_img hok h1 h2
  refine ⟨_, hl, foldD_len _ _, ?_, fold_img hok, those_nil _ _ _ (foldB_still hl).1, fun k hk => ?_⟩
  · exact decide_eq_true ⟨foldD_len _ _, fold_unlike hok⟩
  · have hx := List.getElem?_eq_getElem hk
    obtain ⟨y, hy, e1, e2⟩ := fold_kept hok hx
    obtain ⟨z, hz, e3⟩ := cut0_get hx
    exact ⟨y, z, _, hy, hz, e1, e2, e3, (hok _ (List.mem_of_getElem? hx)).2.1⟩
set_option maxHeartbeats 16000000 in
theorem walk_ImageBack (p : Int) (A : Option Addr) (m c : Nat) (xs : List (Deed × Holds)) (w : World) (_hb : -9223372036854775808 ≤ p ∧ p ≤ 9223372036854775807) (h : Deeds w A m xs) (_hm : m ≤ c) :
    Calls Try.prog 7 #[.int .i64 p, .slice A m c] w fun e w' => e = .returned (.bool true) ∧ Only [] w w' := by
  have LG := Lib.hid (law27_large A m c xs w h)
  cases hlg : isLarge xs
  case true =>
    rw [hlg] at LG
    clear h
    go_enter Try.func7, Try.ntmps7
    go_wp2_with fail
    refine (LG.out).mono ?_
    rintro e w' ⟨rfl, rfl⟩
    go_wp2_with fail
    refine (law27_awake _).mono ?_
    rintro e w1 ⟨rfl, o1⟩
    go_wp2
    go_ret
    exact ⟨rfl, o1⟩
  rw [hlg] at LG
  have HLW := Lib.hid (law0_Low p 12 w (by omega) (by omega))
  have hk12 := low_lt p 12 (by omega)
  generalize low p 12 = k0 at *
  have BO := Lib.hid (law27_both (1 + (k0 : Int)) A m c xs w h (large_no hlg).2 (by omega))
  clear h
  go_enter Try.func7, Try.ntmps7
  go_wp2_with fail
  refine (LG.out).mono ?_
  rintro e w' ⟨rfl, rfl⟩
  go_wp2_with fail
  refine (HLW.out).mono ?_
  rintro e w' ⟨rfl, rfl⟩
  go_wp2_with fail
  refine BO.out.mono ?_
  rintro e w1 ⟨o1, ⟨hbad, _⟩ | ⟨N, g, cb, rg, rb, hN0, hN1, hN2, rfl, d1, r1, f1, f2, f3, f4, x1, x2, x3, x4⟩⟩
  · exact absurd hbad (by omega)
  clear r1 x1 x2 x3 x4 f3 f4 hN0
  have hDN : (playAll (newDev N) xs).lines.length = N := by
    rw [playAll_length]
    exact List.length_replicate
  generalize playAll (newDev N) xs = D at *
  have O1 := Lib.hid o1
  have D1 := Lib.hid d1
  have hok := d1.ok
  have hfew := d1.few
  obtain ⟨p1, _⟩ := img_parse hok (by omega)
  have hil : (itemsD D).length ≤ 258 := by
    have : (itemsD D).length ≤ (List.range D.lines.length).length := List.length_filterMap_le _ _
    rw [List.length_range] at this
    omega
  obtain ⟨C, hC, hB⟩ := backOf hok (by omega) (by omega)
  have ID := Lib.hid (img_Dump g cb N D w1 d1)
  have hL : 10 ≤ (imgOf D).length ∧ (imgOf D).length ≤ 20000 := by omega
  have HC := Lib.hid hC
  have HB := Lib.hid hB
  have HF := Lib.hid (show w.heap.size ≤ g ∧ w.heap.size ≤ cb from ⟨f1, f2⟩)
  have HIC := Lib.hid hB.img
  clear o1 d1 hok p1 hil hC hB f1 f2 hDN
  generalize imgOf D = l at *
  go_wp2_with fail
  refine ID.out.mono ?_
  rintro e w2 ⟨x2, rfl, A2, c2, rfl, b2, o2⟩
  obtain ⟨n2, hn2⟩ : ∃ n2, n2 = l.length := ⟨_, rfl⟩
  rw [← hn2] at b2 hL
  rw [← hn2]
  have O2 := Lib.hid (O1.out.trans0 o2)
  have D2 := Lib.hid (D1.out.only0 o2)
  obtain ⟨_, _, he2, hcap2, _⟩ := own_slice b2
  cases he2
  have E2 := Lib.hid b2
  have HN2 := Lib.hid hn2
  clear b2 o2 hn2
  go_wp2_with fail
  refine (img_Load A2 n2 c2 l w2 (bs_own E2.out) hcap2 (by omega)).mono ?_
  rintro e w3 ⟨o3, h3⟩
  rw [HC.out] at h3
  rcases h3 with ⟨h, _⟩ | ⟨C', g3, cb3, h, rfl, d3, f3, f4⟩
  · cases h
  cases h
  have z1 := D2.out.lt1
  have z2 := D2.out.lt2
  rw [HB.out.len] at d3
  have hne3 : g3 ≠ g ∧ g3 ≠ cb ∧ cb3 ≠ g ∧ cb3 ≠ cb := by omega
  have HNE := Lib.hid hne3
  obtain ⟨q, hq⟩ : ∃ q, q = D.lines.length := ⟨_, rfl⟩
  have HQ := Lib.hid hq
  rw [← hq] at d3 hfew
  have O3 := Lib.hid (O2.out.trans0 o3)
  have D3 := Lib.hid (D2.out.only0 o3)
  have C3 := Lib.hid d3
  have E3 := Lib.hid (own_only E2.out o3 (by simp))
  have hw23 := o3.size
  clear o3 d3 f3 f4 hq hne3 z1 z2
  have HSM := Lib.hid (show Calls Try.prog 26 #[.pointer (some ⟨g3, 0, none⟩), .pointer (some ⟨g, 0, none⟩)] w3 fun e w' => e = .returned (.bool true) ∧ Only [] w3 w' by
    have := img_Same g3 cb3 q g cb N C D w3 C3.out D3.out
    rw [HB.out.same] at this
    exact this)
  go_wp2_with fail
  refine HSM.out.mono ?_
  rintro e w4 ⟨rfl, o4⟩
  have O4 := Lib.hid (O3.out.trans0 o4)
  have D4 := Lib.hid (D3.out.only0 o4)
  have C4 := Lib.hid (C3.out.only0 o4)
  have E4 := Lib.hid (own_only E3.out o4 (by simp))
  have hw34 := o4.size
  clear o4
  go_wp2_with fail
  refine (nvm_Cut g cb N D none 0 0 [] w4 D4.out (Is.nil _ _) (by omega) (by omega)).mono ?_
  rintro e w5 ⟨A5, c5, rfl, b5, d5, o5⟩
  have D5 := Lib.hid d5
  have C5 := Lib.hid (C4.out.only o5 (by have := HNE.out; simp; omega) (by have := HNE.out; simp; omega))
  have hE : ∀ k, (Value.slice A2 n2 c2).ownBlock = some k → k ∉ [g, cb] := by
    intro k hk
    have h1 := own_ge E4.out k hk
    have h2 := D1.out.lt1
    have h3 := D1.out.lt2
    simp
    omega
  have E5 := Lib.hid (own_only E4.out o5 hE)
  have O5 := Lib.hid (O4.out.trans o5 (fun b hb => .inr (by have := HF.out; simp at hb; omega)))
  have HLC := Lib.hid (show (cutD D []).lines.length = q by rw [cut0_len]; exact HQ.out.symm)
  have HLN := Lib.hid (fun k (hk : k < q) => HB.out.line k (by rw [← HQ.out]; exact hk))
  clear b5 d5 o5 hE
  generalize cutD D [] = D' at *
  go_wp2
  go_loopw [11, 12, 13, 14, 15, 16, 17] (fun i _ _ _ _ _ _ wr => ∃ j : Nat, j ≤ q ∧ i = .int .i64 j ∧ Only [] w5 wr) (fun i _ _ _ _ _ _ _ => q - (intOf i).toNat)
  case atStart => exact ⟨0, Nat.zero_le _, rfl, Only.refl _ _⟩
  case round =>
    obtain ⟨k, hj, rfl, on⟩ := hrel
    have DR := Lib.hid (D5.out.only0 on)
    have CR := Lib.hid (C5.out.only0 on)
    have ON := Lib.hid on
    have ER := Lib.hid (own_only E5.out on (by simp))
    clear on
    have LN := Lib.hid (show Calls Try.prog 29 #[.pointer (some ⟨g, 0, none⟩)] wr fun e w' => e = .returned (.int .i64 q) ∧ wr = w' by
      have := nvm_Lines g cb N D' wr DR.out
      rw [HLC.out] at this
      exact this)
    by_cases hlt : k < q
    · have q1 : decide ((k : Int) < (q : Int)) = true := by go_num
      obtain ⟨y, z, r, hy, hz, e1, e2, e3, hr⟩ := HLN.out k hlt
      have HY := Lib.hid hy
      have HZ := Lib.hid hz
      have Y1 := Lib.hid e1
      have Y2 := Lib.hid e2
      have Z1 := Lib.hid e3
      have HR := Lib.hid hr
      clear hy hz e1 e2 e3 hr
      go_wp2_with fail
      refine (LN.out).mono ?_
      rintro e w' ⟨rfl, rfl⟩
      go_wp2_with fail
      refine (nvm_Load g3 cb3 q C k y HY.out _ CR.out).mono ?_
      rintro e w6 ⟨v6, rfl, m6⟩
      obtain ⟨A6, c6, rfl, b6, o6⟩ := madeB_own2 m6
      rw [Y1.out, HR.out] at b6
      rw [Y1.out, HR.out]
      have D6 := Lib.hid (DR.out.only0 o6)
      have C6 := Lib.hid (CR.out.only0 o6)
      have O6 := Lib.hid (ON.out.trans0 o6)
      have B6 := Lib.hid b6
      clear m6 b6 o6
      go_wp2_with fail
      refine (nvm_Load g cb N D' k z HZ.out _ D6.out).mono ?_
      rintro e w7 ⟨v7, rfl, m7⟩
      obtain ⟨A7, c7, rfl, b7, o7⟩ := madeB_own2 m7
      rw [Z1.out, HR.out] at b7
      rw [Z1.out, HR.out]
      have C7 := Lib.hid (C6.out.only0 o7)
      have O7 := Lib.hid (O6.out.trans0 o7)
      have B7 := Lib.hid (own_only B6.out o7 (by simp))
      have F7 := Lib.hid b7
      clear m7 b7 o7
      go_wp2_with fail
      refine (nvm_Durable g3 cb3 q C k y HY.out _ C7.out).mono ?_
      rintro e w8 ⟨v8, rfl, m8⟩
      obtain ⟨A8, c8, rfl, b8, o8⟩ := madeB_own2 m8
      rw [Y2.out, HR.out] at b8
      rw [Y2.out, HR.out]
      have O8 := Lib.hid (O7.out.trans0 o8)
      have B8 := Lib.hid (own_only B7.out o8 (by simp))
      have F8 := Lib.hid (own_only F7.out o8 (by simp))
      have G8 := Lib.hid b8
      clear m8 b8 o8
      go_wp2_with fail
      refine (law0_SameBytes A6 A7 64 64 c6 c7 r r _ (bs_own B8.out) (bs_own F8.out)).mono ?_
      rintro e w' ⟨rfl, rfl⟩
      rw [beq_self_eq_true]
      go_wp2_with fail
      refine (law0_SameBytes A8 A7 64 64 c8 c7 r r _ (bs_own G8.out) (bs_own F8.out)).mono ?_
      rintro e w' ⟨rfl, rfl⟩
      rw [beq_self_eq_true]
      go_wp2
      go_roundw
      case rel => exact ⟨k + 1, by omega, by go_num, O8.out⟩
      case measure => simp [intOf]; omega
    · obtain rfl : k = q := by omega
      have q1 : decide ((k : Int) < (k : Int)) = false := by simp
      have HID := Lib.hid (img_Dump g3 cb3 k C wr CR.out)
      rw [HIC.out] at HID
      have HLO := Lib.hid (fun w (hd : DevAt w g3 cb3 k C) => by have := nvm_Loose g3 cb3 k C w hd; rw [HB.out.loose] at this; exact this)
      go_wp2_with fail
      refine (LN.out).mono ?_
      rintro e w' ⟨rfl, rfl⟩
      go_wp2_with fail
      refine HID.out.mono ?_
      rintro e w6 ⟨x6, rfl, A6, c6, rfl, b6, o6⟩
      rw [← HN2.out] at b6
      rw [← HN2.out]
      have C6 := Lib.hid (CR.out.only0 o6)
      have O6 := Lib.hid (ON.out.trans0 o6)
      have B6 := Lib.hid b6
      have F6 := Lib.hid (own_only ER.out o6 (by simp))
      clear b6 o6
      go_wp2_with fail
      refine (law0_SameBytes A6 A2 n2 n2 c6 c2 l l _ (bs_own B6.out) (bs_own F6.out)).mono ?_
      rintro e w' ⟨rfl, rfl⟩
      rw [beq_self_eq_true]
      go_wp2_with fail
      refine (HLO.out _ C6.out).mono ?_
      rintro e w7 ⟨v7, rfl, A7, c7, rfl, b7, o7⟩
      have O7 := Lib.hid (O6.out.trans0 o7)
      clear b7 o7
      go_wp2_with fail
      refine (law27_awake _).mono ?_
      rintro e wz ⟨rfl, oz⟩
      have PZ := Lib.hid (O5.out.trans0 (O7.out.trans0 oz))
      clear oz
      go_wp2
      go_ret
      exact ⟨rfl, PZ.out⟩
end Go.Proofs.Ytkbgoloedlpflaa
