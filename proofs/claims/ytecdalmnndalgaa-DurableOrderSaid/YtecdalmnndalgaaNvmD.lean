/- The contracts of package nvm, third part: the fence. -/
import Derived.Test.YtecdalmnndalgaaNvmC
namespace Go.Proofs.Ytecdalmnndalgaa
open Go.RowKit Go.Proofs.FuMem Go.Proofs.FuNvm Go.Proofs.FuCode
set_option maxRecDepth 100000

/-- the first i lines have turned -/
def upTo (f : Nat → Line → Line) (L : List Line) (i : Nat) : List Line := L.mapIdx fun j x => if j < i then f j x else x
theorem upTo_length (f : Nat → Line → Line) (L : List Line) (i : Nat) : (upTo f L i).length = L.length := by simp [upTo]
theorem upTo_zero (f : Nat → Line → Line) (L : List Line) : upTo f L 0 = L := by
  apply List.ext_getElem
  · simp [upTo]
  · intro i h1 h2
    simp [upTo]
theorem upTo_all (f : Nat → Line → Line) (L : List Line) : upTo f L L.length = L.mapIdx f := by
  apply List.ext_getElem
  · simp [upTo]
  · intro i h1 h2
    simp only [upTo_length] at h1
    simp [upTo, h1]
theorem upTo_get (f : Nat → Line → Line) (L : List Line) (i : Nat) (hi : i < L.length) : (upTo f L i)[i]? = some L[i] := by
  simp [upTo, List.getElem?_eq_getElem hi]
theorem upTo_succ (f : Nat → Line → Line) (L : List Line) (i : Nat) (hi : i < L.length) : (upTo f L i).set i (f i L[i]) = upTo f L (i + 1) := by
  apply List.ext_getElem
  · simp [upTo]
  · intro j h1 h2
    simp only [List.getElem_set, upTo, List.getElem_mapIdx]
    by_cases e : i = j
    · subst e
      simp
    · rw [if_neg e]
      by_cases h : j < i
      · rw [if_pos h, if_pos (by omega)]
      · rw [if_neg h, if_neg (by omega)]
theorem upTo_keep (f : Nat → Line → Line) (L : List Line) (i : Nat) (hi : i < L.length) (h : f i L[i] = L[i]) : upTo f L i = upTo f L (i + 1) := by
  rw [← upTo_succ f L i hi, h]
  have := upTo_get f L i hi
  obtain ⟨h1, h2⟩ := List.getElem?_eq_some_iff.1 this
  rw [← h2]
  exact (List.set_getElem_self h1).symm
def fenceL (x : Line) : Line := if x.sent = true then { x with kept := x.way, sent := false } else x
def fenceD (D : Dev) : Dev := { D with lines := D.lines.map fenceL, fences := wrap64 (D.fences + 1) }
theorem mapIdx_map (f : Line → Line) (L : List Line) : L.mapIdx (fun _ x => f x) = L.map f := by
  apply List.ext_getElem
  · simp
  · intro i h1 h2
    simp
set_option maxHeartbeats 1000000 in
theorem nvm_Fence (g cb cap : Nat) (D : Dev) (w : World) (hd : DevAt w g cb cap D) :
    Calls Try.prog 64 #[.pointer (some ⟨g, 0, none⟩)] w fun e w' => e = .returned (.int .i64 0) ∧ DevAt w' g cb cap (fenceD D) ∧ Only [g, cb] w w' := by
  have hc : w.cell? ⟨g, 0, none⟩ = some (.slice (some ⟨cb, 0, none⟩) D.lines.length cap) := hd.cell 0
  have hf := hd.few
  have HD := Lib.hid hd
  clear hd
  obtain ⟨m, hm⟩ : ∃ m, m = D.lines.length := ⟨_, rfl⟩
  rw [← hm] at hc hf
  have HM := Lib.hid hm
  clear hm
  go_enter Try.func64, Try.ntmps64
  go_wp2
  go_loopw [3, 4, 12] (fun _ _ i wr => ∃ k : Nat, k ≤ m ∧ i = .int .i64 k ∧ DevAt wr g cb cap { D with lines := upTo (fun _ x => fenceL x) D.lines k } ∧ Only [g, cb] w wr) (fun _ _ i _ => m - (intOf i).toNat)
  case atStart => exact ⟨0, Nat.zero_le _, rfl, by rw [upTo_zero]; exact HD.out, Only.refl _ _⟩
  case round =>
    obtain ⟨k, hk, rfl, hd, on⟩ := hrel
    have hcr := hd.cell 0
    have hcr0 : wr.cell? ⟨g, 0, none⟩ = some (.slice (some ⟨cb, 0, none⟩) m cap) := by
      rw [hcr]
      simp [headOf, upTo_length, HM.out]
    clear hcr
    by_cases hlt : k < m
    · have hkl : k < D.lines.length := by rw [← HM.out]; exact hlt
      have hkl2 : k < (upTo (fun _ x => fenceL x) D.lines k).length := by rw [upTo_length]; exact hkl
      obtain ⟨hq1, hq2⟩ := List.getElem?_eq_some_iff.1 (upTo_get (fun _ x => fenceL x) D.lines k hkl)
      have hsc := hd.sentCell (i := k) hkl2
      simp only [hq2] at hsc
      by_cases hsent : (D.lines[k]).sent = true
      · rw [hsent] at hsc
        have hok := HD.out.ok.get hkl
        have hlen := hok.2.2
        have hway := hd.way (i := k) hkl2
        simp only [hq2] at hway
        rw [← hlen] at hway
        have hsz : (Try.prog.info? 92).map (·.size) = some (D.lines[k]).way.length := by rw [hlen]; exact lineSize
        have hsz2 : (Try.prog.info? 92).map (·.size) = some ((D.lines[k]).way.map B).toArray.size := by rw [List.size_toArray, List.length_map, hlen]; exact lineSize
        obtain ⟨cs, hb, hp⟩ := hd.body
        have hs := body_size hd.ok hp
        have hi2 : (k + 1) * 193 ≤ (upTo (fun _ x => fenceL x) D.lines k).length * 193 := Nat.mul_le_mul_right _ hkl2
        have hfit : k * 193 + 64 + ((D.lines[k]).way.map B).toArray.size ≤ cs.size := by rw [List.size_toArray, List.length_map, hlen]; simp only at hs; omega
        have hsucc := upTo_succ (fun _ x => fenceL x) D.lines k hkl
        have hfl : fenceL (D.lines[k]) = { D.lines[k] with kept := (D.lines[k]).way, sent := false } := by unfold fenceL; rw [if_pos hsent]
        have HOK := Lib.hid hok
        have HLEN := Lib.hid hlen
        have HS1 := Lib.hid hsz
        have HS2 := Lib.hid hsz2
        have HP := Lib.hid hp
        have HDR := Lib.hid hd
        have ON := Lib.hid on
        have HQ := Lib.hid hq2
        have HSU := Lib.hid hsucc
        have HFL := Lib.hid hfl
        clear hok hlen hsz hsz2 hp hs hi2 hd on hq2 hsucc hfl hsent
        go_wp2_with (first
          | ((with_reducible show wpList _ _ _ (Oper.mk (some 30) _ _ _ _ _ :: _) _ _); refine wpList_load_arr rfl 92 (.tmp 29) rfl cb (k * 193 + 128) rfl (D.lines[k]).way hway 64 5 Try.underlying92 HS1.out ?_)
          | ((with_reducible show wpList _ _ _ (Oper.mk none _ _ _ _ _ :: _) _ _); refine wpList_store_blk rfl 92 (.tmp 32) (.tmp 30) rfl cb (k * 193 + 64) ((D.lines[k]).way.map B).toArray rfl rfl 94 cs hb hfit HS2.out (all_B _) ?_; intro w2 hb2 ho2 hs2;
              have hd2 := HDR.out.write hkl2 (o := 64) (vs := (D.lines[k]).way.map B) (y := { D.lines[k] with kept := (D.lines[k]).way }) (by rw [List.length_map, HLEN.out]; omega) (by rw [show ((upTo (fun _ x => fenceL x) D.lines k)[k]'hkl2) = D.lines[k] from HQ.out]; exact cells_kept _ HOK.out _ HLEN.out) ⟨HOK.out.1, HOK.out.2.2, HOK.out.2.2⟩ cs HP.out hb2 ho2;
              have hsc := hd2.sentCell (i := k) (by simpa using hkl2); have hfz := hd2.frozen2 (k * 193 + 192); simp only [List.getElem_set_self] at hsc))
        have hsw := IsDev.setSent hd2 (i := k) (by simpa using hkl2) false
        have he : ∀ D' : Dev, D' = { D with lines := upTo (fun _ x => fenceL x) D.lines (k + 1) } → DevAt (w2.setCell ⟨cb, k * 193 + 192, none⟩ (.bool false)) g cb cap D' → DevAt (w2.setCell ⟨cb, k * 193 + 192, none⟩ (.bool false)) g cb cap { D with lines := upTo (fun _ x => fenceL x) D.lines (k + 1) } := by
          rintro D' rfl h
          exact h
        have hd3 := he _ (by
          rw [← HSU.out, HFL.out]
          simp) hsw.1
        have HD3 := Lib.hid hd3
        have ON3 := Lib.hid (ON.out.trans (ho2.trans hsw.2 (T := [cb]) (by simp)) (by simp))
        clear hd3 he hsw hd2 hb2 ho2 hb hway
        go_roundw
        case rel => exact ⟨k + 1, by omega, by go_num, HD3.out, ON3.out⟩
        case measure => simp [intOf]; omega
      · have hs0 : (D.lines[k]).sent = false := by simpa using hsent
        rw [hs0] at hsc
        have hkeep := upTo_keep (fun _ x => fenceL x) D.lines k hkl (by unfold fenceL; rw [if_neg hsent])
        rw [hkeep] at hd
        have HD2 := Lib.hid hd
        have ON := Lib.hid on
        clear hd on hkeep hsent hs0 hq2
        go_wp2
        go_roundw
        case rel => exact ⟨k + 1, by omega, by go_num, HD2.out, ON.out⟩
        case measure => simp [intOf]; omega
    · obtain rfl : k = m := by omega
      have hall : upTo (fun _ x => fenceL x) D.lines k = D.lines.map fenceL := by rw [HM.out, upTo_all, mapIdx_map]
      rw [hall] at hd
      have hc3 := hd.cell 3
      have hf3 := hd.frozen1 3
      have hcnt := IsDev.count (D' := fenceD D) hd 3 (wrap64 (D.fences + 1)) rfl (by unfold fenceD headOf; simp)
      have HCN := Lib.hid hcnt
      have ON := Lib.hid on
      clear hd on hall hcnt
      go_wp2_with fail
      refine (int64_Add g 3 D.fences _ hc3 hf3).mono ?_
      rintro e w3 ⟨rfl, rfl⟩
      go_wp2
      go_ret
      exact ⟨rfl, HCN.out.1, ON.out.trans HCN.out.2 (by simp)⟩
end Go.Proofs.Ytecdalmnndalgaa
