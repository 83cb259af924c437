/- fuseeref27.Unlike. -/
import Derived.BigQuiet
import Derived.Test.YtkbgoloedlpflaaGImageUnlike1
import Derived.Test.YtkbgoloedlpflaaGImageUnlike2
import Derived.Test.YtkbgoloedlpflaaGImageUnlike3
import Derived.Test.YtkbgoloedlpflaaGImageUnlike4
import Derived.Test.YtkbgoloedlpflaaGImageUnlike5
set_option maxRecDepth 100000
namespace Go.Proofs.Ytkbgoloedlpflaa
open Go.BigFrame Go.RowKit Go.Proofs.FuMem Go.Proofs.FuNvm Go.Proofs.FuCode Go.Proofs.FuCrc Go.Proofs.FuImg
set_option maxHeartbeats 40000000 in
theorem r27_Unlike (ga cba capa gb cbb capb : Nat) (D E : Dev) (w : World) (hd : RefAt w ga cba capa D) (he : RefAt w gb cbb capb E) :
    Calls Try.prog 25 #[.pointer (some ⟨ga, 0, none⟩), .pointer (some ⟨gb, 0, none⟩)] w fun e w' => ∃ x, e = .returned x ∧ MadeI w (unlike D E) x w' := by
  have hf := hd.few
  have hf2 := he.few
  have HD := Lib.hid hd
  have HE := Lib.hid he
  clear hd he
  obtain ⟨i0, hi, hz0, hz1, hz2⟩ := info_parts Try.intInfo
  have HI := Lib.hid hi
  have HZ0 := Lib.hid hz0
  have HZ1 := Lib.hid hz1
  have HZ2 := Lib.hid hz2
  clear hi hz0 hz1 hz2
  have HQ0 := Lib.hid (show unlike D E = unlikeTo D E (max D.lines.length E.lines.length) from rfl)
  obtain ⟨dl, hdl⟩ : ∃ dl, dl = D.lines.length := ⟨_, rfl⟩
  obtain ⟨el, hel⟩ : ∃ el, el = E.lines.length := ⟨_, rfl⟩
  rw [← hdl] at hf HQ0
  rw [← hel] at hf2 HQ0
  obtain ⟨q, hq⟩ : ∃ q, q = max dl el := ⟨_, rfl⟩
  rw [← hq] at HQ0
  have HQ := Lib.hid (show dl ≤ q ∧ el ≤ q ∧ (q ≤ dl ∨ q ≤ el) by omega)
  have hq5 : q ≤ 258 := by omega
  have HDL := Lib.hid hdl
  have HEL := Lib.hid hel
  clear hdl hel hq
  go_enter Try.func25, Try.ntmps25
  go_wp2
  go_loopw [5, 6] (fun v i wr => ∃ (k n : Nat), k ≤ q ∧ i = .int .i64 k ∧ n = (unlikeTo D E k).length ∧ wr.ownsRow w.heap.size 3 1 v n ((unlikeTo D E k).map (.int .i64)) ∧ Only [] w wr) (fun _ i _ => q - (intOf i).toNat)
  case atStart => exact ⟨0, 0, Nat.zero_le _, rfl, rfl, own_nil _ _ _ _, Only.refl _ _⟩
  case round =>
    obtain ⟨k, n, hk, rfl, hln, ho, on⟩ := hrel
    have hnk : n ≤ k := by rw [hln]; exact unlikeTo_length _ _ _
    have HLN := Lib.hid hln
    have DR := Lib.hid (HD.out.only0 on)
    have ER := Lib.hid (HE.out.only0 on)
    have HO := Lib.hid ho
    have ON := Lib.hid on
    have hca : wr.cell? ⟨ga, 0, none⟩ = some (.slice (some ⟨cba, 0, none⟩) dl capa) := by rw [DR.out.cell 0, HDL.out]; rfl
    have hcb : wr.cell? ⟨gb, 0, none⟩ = some (.slice (some ⟨cbb, 0, none⟩) el capb) := by rw [ER.out.cell 0, HEL.out]; rfl
    clear hln ho on
    by_cases h1 : k < dl
    · have q1 : decide ((k : Int) < (dl : Int)) = true := by go_num
      have q1' : decide ((dl : Int) ≤ (k : Int)) = false := by go_num
      have n1' : ¬ dl ≤ k := by omega
      have hkq : k < q := by have := HQ.out; omega
      by_cases h2 : k < el
      · have q2' : decide ((el : Int) ≤ (k : Int)) = false := by go_num
        have n2' : ¬ el ≤ k := by omega
        have hkd : k < D.lines.length := by rw [← HDL.out]; exact h1
        have hke : k < E.lines.length := by rw [← HEL.out]; exact h2
        have b1 := DR.out.kept hkd
        have b2 := ER.out.kept hke
        have hx : D.lines[k]? = some D.lines[k] := List.getElem?_eq_getElem hkd
        have hy : E.lines[k]? = some E.lines[k] := List.getElem?_eq_getElem hke
        generalize D.lines[k] = x at *
        generalize E.lines[k] = y at *
        have hx64 := (DR.out.ok x (List.mem_of_getElem? hx)).2.1
        have hy64 := (ER.out.ok y (List.mem_of_getElem? hy)).2.1
        have hkx : keptAt D k = some x.kept := by unfold keptAt; rw [hx]; rfl
        have hky : keptAt E k = some y.kept := by unfold keptAt; rw [hy]; rfl
        have B1 := Lib.hid (show Bs wr (some ⟨cba, k * 193 + 64, none⟩) x.kept.length x.kept by rw [hx64]; exact b1)
        have B2 := Lib.hid (show Bs wr (some ⟨cbb, k * 193 + 64, none⟩) y.kept.length y.kept by rw [hy64]; exact b2)
        have S1 := Lib.hid (show (Try.prog.info? 69).map (·.size) = some x.kept.length by rw [hx64]; exact arrSize3)
        have S2 := Lib.hid (show (Try.prog.info? 69).map (·.size) = some y.kept.length by rw [hy64]; exact arrSize3)
        have hq := neq_arr3 x.kept y.kept hx64 hy64
        have hg := fun (a b : Operand) (w : World) => eqGuard_arr (P := Try.prog) arrGuard3 .neq a b x.kept y.kept w
        have HXY := Lib.hid (show (keptAt D k ≠ keptAt E k) ↔ (x.kept != y.kept) = true by rw [hkx, hky, bne_iff_ne]; simp)
        clear hx hy hkx hky hx64 hy64 b1 b2 hkd hke
        generalize hbb : (x.kept != y.kept) = bb at *
        clear hbb
        go_wp2_with fail
        refine wp_region_later wr (by kernel_rfl) (by kernel_rfl) ?_
        have hl1 := fun (p : Later wr) => Later.cell p hca
        have hl2 := fun (p : Later wr) => Later.cell p hcb
        clear hca hcb
        repeat (go_big_quiet_step (fail))
        refine later_load rfl 69 (.tmp 55) rfl cba (k * 193 + 64) rfl x.kept B1.out 64 5 Try.underlying69 S1.out ?_
        simp only [Act.put, List.setIfInBounds_toArray, List.set_cons_succ, List.set_cons_zero]
        repeat (go_big_quiet_step (fail))
        refine later_load rfl 69 (.tmp 63) rfl cbb (k * 193 + 64) rfl y.kept B2.out 64 5 Try.underlying69 S2.out ?_
        simp only [Act.put, List.setIfInBounds_toArray, List.set_cons_succ, List.set_cons_zero]
        repeat (go_big_quiet_step (fail))
        repeat (go_big_quiet_step (fail))
        refine wpQuiet_nil ?_
        intro _ hw'
        obtain ⟨p, hw''⟩ := hw'
        subst hw''
        have opw := p.only
        generalize p.w = w1 at *
        have hown := own_only HO.out opw (by simp)
        have ON1 := Lib.hid (ON.out.trans0 opw)
        clear opw hl1 hl2
        by_cases hp : bb = true
        · subst hp
          have HNE := Lib.hid (HXY.out.2 rfl)
          obtain ⟨A', c', w', hr, ho2, hs2, on2⟩ := append_own (P := Try.prog) (w1.alloc (.cells #[.int .i64 (k : Int)] 3)) (ON1.out.alloc _) 51 51 3 i0 _ 8 Try.underlying51 HI.out HZ0.out HZ1.out HZ2.out rfl _ n _ (hown.alloc _) (some ⟨w1.heap.size, 0, none⟩) 1 1 [.int .i64 (k : Int)] (cell_new1 _ _ _) (ints_new1 _ _) (by unfold maxLen; omega) (by omega)
          rw [show (unlikeTo D E k).map (Value.int .i64) ++ [.int .i64 (k : Int)] = (unlikeTo D E (k + 1)).map (.int .i64) by rw [unlikeTo_succ, if_pos HNE.out]; simp] at ho2
          have H1 := Lib.hid ho2
          have H2 := Lib.hid on2
          have LN := Lib.hid (show n + 1 = (unlikeTo D E (k + 1)).length by rw [unlikeTo_succ, if_pos HNE.out, List.length_append, List.length_singleton, HLN.out])
          clear hown ho2 on2 hs2
          go_wp2_with (at_builtin; go_loud (refine wpList_append_run _ rfl (.tmp 67) (.tmp 69) 51 rfl _ _ rfl rfl _ _ hr ?_))
          go_roundw
          case rel => exact ⟨k + 1, n + 1, by omega, by go_num, LN.out, H1.out, H2.out⟩
          case measure => simp [intOf]; omega
        · have HEQ := Lib.hid (show unlikeTo D E (k + 1) = unlikeTo D E k by rw [unlikeTo_succ, if_neg (fun h => hp (HXY.out.1 h))])
          have hp0 : bb = false := by simpa using hp
          subst hp0
          have H2 := Lib.hid hown
          clear hown hp
          go_wp2
          go_roundw
          case rel => exact ⟨k + 1, n, by omega, by go_num, by rw [HEQ.out]; exact HLN.out, by rw [HEQ.out]; exact H2.out, ON1.out⟩
          case measure => simp [intOf]; omega
      · have q2' : decide ((el : Int) ≤ (k : Int)) = true := by go_num
        have n2' : el ≤ k := by omega
        have HNE := Lib.hid (show keptAt D k ≠ keptAt E k by
          unfold keptAt
          have h3 := HDL.out
          have h4 := HEL.out
          rw [List.getElem?_eq_getElem (show k < D.lines.length by omega), List.getElem?_eq_none (show E.lines.length ≤ k by omega)]
          simp)
        go_wp2_with fail
        refine wp_region_later wr (by kernel_rfl) (by kernel_rfl) ?_
        have hl1 := fun (p : Later wr) => Later.cell p hca
        have hl2 := fun (p : Later wr) => Later.cell p hcb
        clear hca hcb
        repeat (go_big_quiet_step (fail))
        repeat (go_big_quiet_step (fail))
        refine wpQuiet_nil ?_
        intro _ hw'
        obtain ⟨p, hw''⟩ := hw'
        subst hw''
        have opw := p.only
        generalize p.w = w1 at *
        have hown := own_only HO.out opw (by simp)
        have ON1 := Lib.hid (ON.out.trans0 opw)
        clear opw hl1 hl2
        obtain ⟨A', c', w', hr, ho2, hs2, on2⟩ := append_own (P := Try.prog) (w1.alloc (.cells #[.int .i64 (k : Int)] 3)) (ON1.out.alloc _) 51 51 3 i0 _ 8 Try.underlying51 HI.out HZ0.out HZ1.out HZ2.out rfl _ n _ (hown.alloc _) (some ⟨w1.heap.size, 0, none⟩) 1 1 [.int .i64 (k : Int)] (cell_new1 _ _ _) (ints_new1 _ _) (by unfold maxLen; omega) (by omega)
        rw [show (unlikeTo D E k).map (Value.int .i64) ++ [.int .i64 (k : Int)] = (unlikeTo D E (k + 1)).map (.int .i64) by rw [unlikeTo_succ, if_pos HNE.out]; simp] at ho2
        have H1 := Lib.hid ho2
        have H2 := Lib.hid on2
        have LN := Lib.hid (show n + 1 = (unlikeTo D E (k + 1)).length by rw [unlikeTo_succ, if_pos HNE.out, List.length_append, List.length_singleton, HLN.out])
        clear hown ho2 on2 hs2
        go_wp2_with (at_builtin; go_loud (refine wpList_append_run _ rfl (.tmp 67) (.tmp 69) 51 rfl _ _ rfl rfl _ _ hr ?_))
        go_roundw
        case rel => exact ⟨k + 1, n + 1, by omega, by go_num, LN.out, H1.out, H2.out⟩
        case measure => simp [intOf]; omega
    · have q1 : decide ((k : Int) < (dl : Int)) = false := by go_num
      have q1' : decide ((dl : Int) ≤ (k : Int)) = true := by go_num
      have n1' : dl ≤ k := by omega
      by_cases h2 : k < el
      · have q2 : decide ((k : Int) < (el : Int)) = true := by go_num
        have hkq : k < q := by have := HQ.out; omega
        have HNE := Lib.hid (show keptAt D k ≠ keptAt E k by
          unfold keptAt
          have h3 := HDL.out
          have h4 := HEL.out
          rw [List.getElem?_eq_none (show D.lines.length ≤ k by omega), List.getElem?_eq_getElem (show k < E.lines.length by omega)]
          simp)
        go_wp2_with fail
        refine wp_region_later wr (by kernel_rfl) (by kernel_rfl) ?_
        have hl1 := fun (p : Later wr) => Later.cell p hca
        have hl2 := fun (p : Later wr) => Later.cell p hcb
        clear hca hcb
        repeat (go_big_quiet_step (fail))
        repeat (go_big_quiet_step (fail))
        refine wpQuiet_nil ?_
        intro _ hw'
        obtain ⟨p, hw''⟩ := hw'
        subst hw''
        have opw := p.only
        generalize p.w = w1 at *
        have hown := own_only HO.out opw (by simp)
        have ON1 := Lib.hid (ON.out.trans0 opw)
        clear opw hl1 hl2
        obtain ⟨A', c', w', hr, ho2, hs2, on2⟩ := append_own (P := Try.prog) (w1.alloc (.cells #[.int .i64 (k : Int)] 3)) (ON1.out.alloc _) 51 51 3 i0 _ 8 Try.underlying51 HI.out HZ0.out HZ1.out HZ2.out rfl _ n _ (hown.alloc _) (some ⟨w1.heap.size, 0, none⟩) 1 1 [.int .i64 (k : Int)] (cell_new1 _ _ _) (ints_new1 _ _) (by unfold maxLen; omega) (by omega)
        rw [show (unlikeTo D E k).map (Value.int .i64) ++ [.int .i64 (k : Int)] = (unlikeTo D E (k + 1)).map (.int .i64) by rw [unlikeTo_succ, if_pos HNE.out]; simp] at ho2
        have H1 := Lib.hid ho2
        have H2 := Lib.hid on2
        have LN := Lib.hid (show n + 1 = (unlikeTo D E (k + 1)).length by rw [unlikeTo_succ, if_pos HNE.out, List.length_append, List.length_singleton, HLN.out])
        clear hown ho2 on2 hs2
        go_wp2_with (at_builtin; go_loud (refine wpList_append_run _ rfl (.tmp 67) (.tmp 69) 51 rfl _ _ rfl rfl _ _ hr ?_))
        go_roundw
        case rel => exact ⟨k + 1, n + 1, by omega, by go_num, LN.out, H1.out, H2.out⟩
        case measure => simp [intOf]; omega
      · have q2 : decide ((k : Int) < (el : Int)) = false := by go_num
        obtain rfl : k = q := by have := HQ.out; omega
        have ho := HO.out
        obtain ⟨A', c', rfl, _, _⟩ := own_slice ho
        have H1 := Lib.hid ho
        clear ho HO
        go_wp2
        go_ret
        refine ⟨.slice A' n c', rfl, ?_⟩
        rw [HQ0.out]
        exact madeI_own HLN.out.symm H1.out ON.out
end Go.Proofs.Ytkbgoloedlpflaa
/- Law 27, plain: what is unlike; what a device loaded of another one's image holds. -/
namespace Go.Proofs.Ytkbgoloedlpflaa
open Go.RowKit Go.Proofs.FuMem Go.Proofs.FuNvm Go.Proofs.FuCode Go.Proofs.FuCrc Go.Proofs.FuImg
theorem unlike_comm (D E : Dev) : unlike D E = unlike E D := by
  unfold unlike unlikeTo
  rw [Nat.max_comm]
  congr 1
  refine List.filter_congr fun i _ => ?_
  exact decide_eq_decide.2 ⟨fun h e => h e.symm, fun h e => h e.symm⟩
theorem unlike_nil_iff (D E : Dev) : unlike D E = [] ↔ ∀ i, i < max D.lines.length E.lines.length → keptAt D i = keptAt E i := by
  unfold unlike unlikeTo
  rw [List.map_eq_nil_iff, List.filter_eq_nil_iff]
  constructor
  · intro h i hi
    have := h i (List.mem_range.2 hi)
    simpa using this
  · intro h i hi
    have := h i (List.mem_range.1 hi)
    simpa using this
theorem unlike_self (D : Dev) : unlike D D = [] := (unlike_nil_iff D D).2 fun _ _ => rfl
theorem unlike_len {D E : Dev} (h : unlike D E = []) : D.lines.length = E.lines.length := by
  rw [unlike_nil_iff] at h
  rcases Nat.lt_trichotomy D.lines.length E.lines.length with h1 | h1 | h1
  · have := h D.lines.length (by omega)
    unfold keptAt at this
    rw [List.getElem?_eq_none (Nat.le_refl _), List.getElem?_eq_getElem h1] at this
    cases this
  · exact h1
  · have := h E.lines.length (by omega)
    unfold keptAt at this
    rw [List.getElem?_eq_none (Nat.le_refl _), List.getElem?_eq_getElem h1] at this
    cases this
theorem same_eq (D E : Dev) : decide (D.lines.length = E.lines.length ∧ unlike D E = []) = decide (((unlike D E).length : Int) = 0) := by
  refine decide_eq_decide.2 ⟨fun h => by rw [h.2]; rfl, fun h => ?_⟩
  have h2 : unlike D E = [] := List.length_eq_zero_iff.1 (by omega)
  exact ⟨unlike_len h2, h2⟩
theorem same_self (D : Dev) : decide (D.lines.length = D.lines.length ∧ unlike D D = []) = true := decide_eq_true ⟨rfl, unlike_self D⟩
theorem mem_items {L : List Line} {k : Nat} {p : Nat × List UInt8} : p ∈ items L k ↔ ∃ x, p.1 < k ∧ L[p.1]? = some x ∧ x.kept ≠ zrow ∧ p.2 = x.kept := by
  unfold items
  rw [List.mem_filterMap]
  constructor
  · rintro ⟨i, hi, h⟩
    cases hx : L[i]? with
    | none => rw [hx] at h; cases h
    | some x =>
      rw [hx] at h
      simp only at h
      split at h
      · cases h
      · rename_i hz
        cases h
        exact ⟨x, List.mem_range.1 hi, hx, hz, rfl⟩
  · rintro ⟨x, hi, hx, hz, e⟩
    refine ⟨p.1, List.mem_range.2 hi, ?_⟩
    rw [hx]
    simp only
    rw [if_neg hz, ← e]
theorem fold_kept {D : Dev} (hok : AllOk D.lines) {i : Nat} {x : Line} (hx : D.lines[i]? = some x) : ∃ y, (foldD D.lines.length (itemsD D)).lines[i]? = some y ∧ y.now = x.kept ∧ y.kept = x.kept := by
  have hi : i < D.lines.length := by
    rcases Nat.lt_or_ge i D.lines.length with h | h
    · exact h
    · rw [List.getElem?_eq_none h] at hx
      cases hx
  obtain ⟨y, hy, _, e1, _, e3⟩ := foldD_get (n := D.lines.length) (items_64 hok D.lines.length) hi
  have e : y.kept = x.kept := by
    rcases e3 with ⟨p, hp, hpi, hp2⟩ | ⟨h1, h2⟩
    · obtain ⟨z, _, hz, _, hz2⟩ := mem_items.1 hp
      rw [hpi, hx] at hz
      cases hz
      rw [← hp2, hz2]
    · rw [h2]
      by_cases hz : x.kept = zrow
      · exact hz.symm
      · exact absurd rfl (h1 (i, x.kept) (mem_items.2 ⟨x, hi, hx, hz, rfl⟩))
  exact ⟨y, hy, e1.trans e, e⟩
theorem fold_unlike {D : Dev} (hok : AllOk D.lines) : unlike (foldD D.lines.length (itemsD D)) D = [] := by
  rw [unlike_nil_iff, foldD_len]
  intro i hi
  have hi : i < D.lines.length := by omega
  obtain ⟨y, hy, _, e⟩ := fold_kept hok (List.getElem?_eq_getElem hi)
  unfold keptAt
  rw [hy, List.getElem?_eq_getElem hi]
  simp [e]
theorem fold_img {D : Dev} (hok : AllOk D.lines) : imgOf (foldD D.lines.length (itemsD D)) = imgOf D := by
  have hg := items_good (L := D.lines) D.lines.length D.lines.length (Nat.le_refl _)
  unfold imgOf
  rw [foldD_len, items_fold hg.1 (items_64 hok _)]
theorem cut0_get {D : Dev} {i : Nat} {x : Line} (hx : D.lines[i]? = some x) : ∃ y, (cutD D []).lines[i]? = some y ∧ y.now = x.kept := by
  refine ⟨cutL [] i x, ?_, ?_⟩
  · unfold cutD
    simp only [List.getElem?_mapIdx, hx, Option.map_some]
  · unfold cutL
    rw [if_neg (by simp)]
theorem cut0_len (D : Dev) : (cutD D []).lines.length = D.lines.length := by
  unfold cutD
  simp
end Go.Proofs.Ytkbgoloedlpflaa
/- Law 27: where two devices differ; the walk of ImageUnlike. -/
set_option maxRecDepth 100000
namespace Go.Proofs.Ytkbgoloedlpflaa
open Go.RowKit Go.Proofs.FuMem Go.Proofs.FuNvm Go.Proofs.FuCode Go.Proofs.FuCrc Go.Proofs.FuImg
theorem same_comm (D E : Dev) : decide (E.lines.length = D.lines.length ∧ unlike E D = []) = decide (D.lines.length = E.lines.length ∧ unlike D E = []) := by
  rw [unlike_comm E D]
  exact decide_eq_decide.2 ⟨fun h => ⟨h.1.symm, h.2⟩, fun h => ⟨h.1.symm, h.2⟩⟩
set_option maxHeartbeats 8000000 in
theorem walk_ImageUnlike (p : Int) (A : Option Addr) (m c : Nat) (xs : List (Deed × Holds)) (q : Int) (A' : Option Addr) (m' c' : Nat) (ys : List (Deed × Holds)) (w : World) (_hb : -9223372036854775808 ≤ p ∧ p ≤ 9223372036854775807) (h : Deeds w A m xs) (_hm : m ≤ c)
    (_hb' : -9223372036854775808 ≤ q ∧ q ≤ 9223372036854775807) (h' : Deeds w A' m' ys) (_hm' : m' ≤ c') :
    Calls Try.prog 6 #[.int .i64 p, .slice A m c, .int .i64 q, .slice A' m' c'] w fun e w' => e = .returned (.bool true) ∧ Only [] w w' := by
  have LG := Lib.hid (law27_large A m c xs w h)
  have LG' := Lib.hid (law27_large A' m' c' ys w h')
  cases hlg : isLarge xs
  case true =>
    rw [hlg] at LG
    clear h h' LG'
    go_enter Try.func6, Try.ntmps6
    go_wp2_with fail
    refine (LG.out).mono ?_
    rintro e w' ⟨rfl, rfl⟩
    go_wp2_with fail
    refine (law27_awake _).mono ?_
    rintro e w1 ⟨rfl, o1⟩
    go_wp2
    go_ret
    exact ⟨rfl, o1⟩
  rw [hlg] at LG
  cases hlg' : isLarge ys
  case true =>
    rw [hlg'] at LG'
    clear h h'
    go_enter Try.func6, Try.ntmps6
    go_wp2_with fail
    refine (LG.out).mono ?_
    rintro e w' ⟨rfl, rfl⟩
    go_wp2_with fail
    refine (LG'.out).mono ?_
    rintro e w' ⟨rfl, rfl⟩
    go_wp2_with fail
    refine (law27_awake _).mono ?_
    rintro e w1 ⟨rfl, o1⟩
    go_wp2
    go_ret
    exact ⟨rfl, o1⟩
  rw [hlg'] at LG'
  have HLW := Lib.hid (law0_Low p 12 w (by omega) (by omega))
  have hk12 := low_lt p 12 (by omega)
  generalize low p 12 = k0 at *
  have hLW2 := fun w => law0_Low q 12 w (by omega) (by omega)
  have hk12' := low_lt q 12 (by omega)
  generalize low q 12 = k1 at *
  have HLW2 := Lib.hid hLW2
  have BO := Lib.hid (law27_both (1 + (k0 : Int)) A m c xs w h (large_no hlg).2 (by omega))
  have HDS := Lib.hid h'
  have HSM := Lib.hid (large_no hlg').2
  clear h h' hLW2
  go_enter Try.func6, Try.ntmps6
  go_wp2_with fail
  refine (LG.out).mono ?_
  rintro e w' ⟨rfl, rfl⟩
  go_wp2_with fail
  refine (LG'.out).mono ?_
  rintro e w' ⟨rfl, rfl⟩
  go_wp2_with fail
  refine (HLW.out).mono ?_
  rintro e w' ⟨rfl, rfl⟩
  go_wp2_with fail
  refine BO.out.mono ?_
  rintro e w1 ⟨o1, ⟨hbad, _⟩ | ⟨N, g, cb, rg, rb, hN0, hN1, hN2, rfl, d1, r1, f1, f2, f3, f4, x1, x2, x3, x4⟩⟩
  · exact absurd hbad (by omega)
  clear hN0 f1 f2 f3 f4 x1 x2 x3 x4
  generalize playAll (newDev N) xs = D at *
  have O1 := Lib.hid o1
  have D1 := Lib.hid d1
  have R1 := Lib.hid r1
  have BO2 := Lib.hid (law27_both (1 + (k1 : Int)) A' m' c' ys w1 (HDS.out.only0 o1) HSM.out (by omega))
  clear o1 d1 r1
  go_wp2_with fail
  refine (HLW2.out _).mono ?_
  rintro e w' ⟨rfl, rfl⟩
  go_wp2_with fail
  refine BO2.out.mono ?_
  rintro e w2 ⟨o2, ⟨hbad, _⟩ | ⟨M, g2, cb2, rg2, rb2, hM0, hM1, hM2, rfl, d2, r2, f1, f2, f3, f4, x1, x2, x3, x4⟩⟩
  · exact absurd hbad (by omega)
  clear hM0 f1 f2 f3 f4 x1 x2 x3 x4
  generalize playAll (newDev M) ys = E at *
  have O2 := Lib.hid (O1.out.trans0 o2)
  have DD2 := Lib.hid (D1.out.only0 o2)
  have RD2 := Lib.hid (R1.out.only0 o2)
  have DE2 := Lib.hid d2
  have RE2 := Lib.hid r2
  clear o2 d2 r2
  go_wp2_with fail
  refine (img_Unlike g cb N g2 cb2 M D E w2 DD2.out DE2.out).mono ?_
  rintro e w3 ⟨y3, rfl, A3, c3, rfl, b3, o3⟩
  have hLL := unlikeTo_length D E (max D.lines.length E.lines.length)
  obtain ⟨u, hu⟩ : ∃ u, u = (unlike D E).length := ⟨_, rfl⟩
  rw [← hu] at b3
  rw [← hu]
  have hu5 : u ≤ 258 := by
    have h1 := DD2.out.few
    have h2 := DE2.out.few
    rw [hu]
    unfold unlike
    omega
  have HU := Lib.hid hu
  have B3 := Lib.hid b3
  have P3 := Lib.hid o3
  have DD3 := Lib.hid (DD2.out.only0 o3)
  have RD3 := Lib.hid (RD2.out.only0 o3)
  have DE3 := Lib.hid (DE2.out.only0 o3)
  have RE3 := Lib.hid (RE2.out.only0 o3)
  clear o3 b3 hLL hu
  go_wp2_with fail
  refine (r27_Unlike rg rb N rg2 rb2 M D E w3 RD3.out RE3.out).mono ?_
  rintro e w4 ⟨y4, rfl, A4, c4, rfl, b4, o4⟩
  rw [← HU.out] at b4
  rw [← HU.out]
  have P4 := Lib.hid (P3.out.trans0 o4)
  have DD4 := Lib.hid (DD3.out.only0 o4)
  have RD4 := Lib.hid (RD3.out.only0 o4)
  have DE4 := Lib.hid (DE3.out.only0 o4)
  have RE4 := Lib.hid (RE3.out.only0 o4)
  have B4 := Lib.hid (own_only B3.out o4 (by simp))
  have F4 := Lib.hid b4
  clear o4 b4
  have SE := Lib.hid (same_eq D E)
  have SS := Lib.hid (same_self D)
  have UC := Lib.hid (unlike_comm E D)
  have HS1 := Lib.hid (fun w (hd : DevAt w g cb N D) (he : DevAt w g2 cb2 M E) => (same_eq D E) ▸ img_Same g cb N g2 cb2 M D E w hd he)
  have HS2 := Lib.hid (fun w (hd : DevAt w g cb N D) (he : DevAt w g2 cb2 M E) => (same_eq D E) ▸ (same_comm D E) ▸ img_Same g2 cb2 M g cb N E D w he hd)
  have HS3 := Lib.hid (fun w (hd : DevAt w g cb N D) => (same_self D) ▸ img_Same g cb N g cb N D D w hd hd)
  have HU1 := Lib.hid (fun w (hd : DevAt w g cb N D) (he : DevAt w g2 cb2 M E) => img_Unlike g cb N g2 cb2 M D E w hd he)
  have HU2 := Lib.hid (fun w (hd : DevAt w g cb N D) (he : DevAt w g2 cb2 M E) => (unlike_comm E D) ▸ img_Unlike g2 cb2 M g cb N E D w he hd)
  have HU3 := Lib.hid (fun w (hd : RefAt w rg rb N D) (he : RefAt w rg2 rb2 M E) => r27_Unlike rg rb N rg2 rb2 M D E w hd he)
  clear SE SS UC
  generalize unlike D E = l at *
  rw [← HU.out] at HS1 HS2
  obtain ⟨bb, hbb⟩ : ∃ bb : Bool, bb = decide ((u : Int) = 0) := ⟨_, rfl⟩
  rw [← hbb] at HS1 HS2
  have q0 : ((u : Int) == 0) = bb := by rw [hbb]; rfl
  clear hbb
  go_wp2_with fail
  refine (law0_SameInts A3 A4 u u c3 c4 l l _ (is_own B4.out) (is_own F4.out) (by omega) (by omega)).mono ?_
  rintro e w5 ⟨rfl, o5⟩
  rw [beq_self_eq_true]
  have P5 := Lib.hid (P4.out.trans0 o5)
  have DD5 := Lib.hid (DD4.out.only0 o5)
  have RD5 := Lib.hid (RD4.out.only0 o5)
  have DE5 := Lib.hid (DE4.out.only0 o5)
  have RE5 := Lib.hid (RE4.out.only0 o5)
  have B5 := Lib.hid (own_only B4.out o5 (by simp))
  clear o5
  go_wp2_with fail
  refine (HS1.out _ DD5.out DE5.out).mono ?_
  rintro e w6 ⟨rfl, o6⟩
  have P6 := Lib.hid (P5.out.trans0 o6)
  have DD6 := Lib.hid (DD5.out.only0 o6)
  have RD6 := Lib.hid (RD5.out.only0 o6)
  have DE6 := Lib.hid (DE5.out.only0 o6)
  have RE6 := Lib.hid (RE5.out.only0 o6)
  have B6 := Lib.hid (own_only B5.out o6 (by simp))
  clear o6
  go_wp2_with fail
  refine (HS2.out _ DD6.out DE6.out).mono ?_
  rintro e w7 ⟨rfl, o7⟩
  have P7 := Lib.hid (P6.out.trans0 o7)
  have DD7 := Lib.hid (DD6.out.only0 o7)
  have RD7 := Lib.hid (RD6.out.only0 o7)
  have DE7 := Lib.hid (DE6.out.only0 o7)
  have RE7 := Lib.hid (RE6.out.only0 o7)
  have B7 := Lib.hid (own_only B6.out o7 (by simp))
  clear o7
  go_wp2_with fail
  refine (HU2.out _ DD7.out DE7.out).mono ?_
  rintro e w8 ⟨y8, rfl, A8, c8, rfl, b8, o8⟩
  rw [← HU.out] at b8
  rw [← HU.out]
  have P8 := Lib.hid (P7.out.trans0 o8)
  have DD8 := Lib.hid (DD7.out.only0 o8)
  have RD8 := Lib.hid (RD7.out.only0 o8)
  have DE8 := Lib.hid (DE7.out.only0 o8)
  have RE8 := Lib.hid (RE7.out.only0 o8)
  have B8 := Lib.hid (own_only B7.out o8 (by simp))
  have F8 := Lib.hid b8
  clear o8 b8
  go_wp2_with fail
  refine (law0_SameInts A8 A3 u u c8 c3 l l _ (is_own F8.out) (is_own B8.out) (by omega) (by omega)).mono ?_
  rintro e w9 ⟨rfl, o9⟩
  rw [beq_self_eq_true]
  have P9 := Lib.hid (P8.out.trans0 o9)
  have DD9 := Lib.hid (DD8.out.only0 o9)
  have RD9 := Lib.hid (RD8.out.only0 o9)
  have DE9 := Lib.hid (DE8.out.only0 o9)
  have RE9 := Lib.hid (RE8.out.only0 o9)
  have B9 := Lib.hid (own_only B8.out o9 (by simp))
  clear o9
  go_wp2_with fail
  refine (HS3.out _ DD9.out).mono ?_
  rintro e w10 ⟨rfl, o10⟩
  have P10 := Lib.hid (P9.out.trans0 o10)
  have DD10 := Lib.hid (DD9.out.only0 o10)
  have RD10 := Lib.hid (RD9.out.only0 o10)
  have DE10 := Lib.hid (DE9.out.only0 o10)
  have RE10 := Lib.hid (RE9.out.only0 o10)
  have B10 := Lib.hid (own_only B9.out o10 (by simp))
  clear o10
  obtain ⟨S, hS1, hS2⟩ := own_list B10.out
  have HSA := Lib.hid hS1
  have HSB := Lib.hid hS2
  clear hS1 hS2
  go_wp2_with fail
  refine (law0_OverInts2 S w2.heap.size A3 u c3 l _ B10.out P10.out.size HSA.out (by omega)).mono ?_
  rintro e w11 ⟨rfl, o11⟩
  have hnot : ∀ b, b < w2.heap.size → b ∉ S := fun b hb hm => by have h1 := (HSB.out b hm).1; omega
  have DD11 := Lib.hid (DD10.out.only o11 (hnot _ DD2.out.lt1) (hnot _ DD2.out.lt2))
  have RD11 := Lib.hid (RD10.out.only o11 (hnot _ RD2.out.lt1) (hnot _ RD2.out.lt2))
  have DE11 := Lib.hid (DE10.out.only o11 (hnot _ DE2.out.lt1) (hnot _ DE2.out.lt2))
  have RE11 := Lib.hid (RE10.out.only o11 (hnot _ RE2.out.lt1) (hnot _ RE2.out.lt2))
  have P11 := Lib.hid (P10.out.trans o11 (fun b hb => .inr (HSB.out b hb).1))
  clear o11 hnot
  go_wp2_with fail
  refine (HU1.out _ DD11.out DE11.out).mono ?_
  rintro e w12 ⟨y12, rfl, A12, c12, rfl, b12, o12⟩
  rw [← HU.out] at b12
  rw [← HU.out]
  have P12 := Lib.hid (P11.out.trans0 o12)
  have DD12 := Lib.hid (DD11.out.only0 o12)
  have RD12 := Lib.hid (RD11.out.only0 o12)
  have DE12 := Lib.hid (DE11.out.only0 o12)
  have RE12 := Lib.hid (RE11.out.only0 o12)
  have F12 := Lib.hid b12
  clear o12 b12
  go_wp2_with fail
  refine (HU3.out _ RD12.out RE12.out).mono ?_
  rintro e w13 ⟨y13, rfl, A13, c13, rfl, b13, o13⟩
  rw [← HU.out] at b13
  rw [← HU.out]
  have P13 := Lib.hid (P12.out.trans0 o13)
  have DD13 := Lib.hid (DD12.out.only0 o13)
  have RD13 := Lib.hid (RD12.out.only0 o13)
  have DE13 := Lib.hid (DE12.out.only0 o13)
  have RE13 := Lib.hid (RE12.out.only0 o13)
  have F13 := Lib.hid (own_only F12.out o13 (by simp))
  have G13 := Lib.hid b13
  clear o13 b13
  go_wp2_with fail
  refine (law0_SameInts A12 A13 u u c12 c13 l l _ (is_own F13.out) (is_own G13.out) (by omega) (by omega)).mono ?_
  rintro e w14 ⟨rfl, o14⟩
  rw [beq_self_eq_true]
  have P14 := Lib.hid (P13.out.trans0 o14)
  have DD14 := Lib.hid (DD13.out.only0 o14)
  have RD14 := Lib.hid (RD13.out.only0 o14)
  have DE14 := Lib.hid (DE13.out.only0 o14)
  have RE14 := Lib.hid (RE13.out.only0 o14)
  clear o14
  go_wp2_with fail
  refine (img_Unlike_nil _ _ rfl _).mono ?_
  rintro e w' ⟨rfl, rfl⟩
  go_wp2_with fail
  refine (img_Same_nil none _).mono ?_
  rintro e w' ⟨rfl, rfl⟩
  go_wp2_with fail
  refine (img_Same_nil (some ⟨g, 0, none⟩) _).mono ?_
  rintro e w' ⟨rfl, rfl⟩
  go_wp2_with fail
  refine (law27_awake _).mono ?_
  rintro e wz ⟨rfl, oz⟩
  have PZ := Lib.hid (O2.out.trans0 (P14.out.trans0 oz))
  clear oz
  go_wp2
  go_ret
  exact ⟨rfl, PZ.out⟩
end Go.Proofs.Ytkbgoloedlpflaa
