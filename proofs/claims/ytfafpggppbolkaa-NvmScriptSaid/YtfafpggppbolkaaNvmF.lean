/- The contracts of package nvm, fifth part: the cut. -/
import Derived.Test.YtfafpggppbolkaaNvmE
import Derived.Test.YtfafpggppbolkaaClassB
namespace Go.Proofs.Ytfafpggppbolkaa
open Go.RowKit Go.Proofs.FuMem Go.Proofs.FuNvm Go.Proofs.FuCode
set_option maxRecDepth 100000

/-- append to a slice of the call's own: what stood before the call is as it was -/
theorem append_ownB {P : Program} (w : World) {w0 : World} {T : List Nat} (on : Only T w0 w) (t ty e : TypeId) (i : TypeInfo) (z : Value) (bytes : Nat) (ht : P.underlying t = some (.slice e)) (hi : P.info? e = some i) (hz : i.zero = some z)
    (hsize : i.size = 1) (hby : i.bytes = bytes) (hzs : z.cells.size = 1)
    (v : Value) (n : Nat) (xs : List Value) (hown : w.ownsRow w0.heap.size e 1 v n xs)
    (A : Option Addr) (m c : Nat) (news : List Value) (hr : Sl w A m news) (h1 : ∀ u ∈ news, u.oneCell' = true)
    (h63 : n + m ≤ maxLen) (hbytes : (n + m) * bytes ≤ 140737488355328) :
    ∃ A' c' w', (Builtin.append_ #[t, t] ty #[v, .slice A m c]).run P w = .ok (.slice A' (n + m) c') w' ∧ w'.ownsRow w0.heap.size e 1 (.slice A' (n + m) c') (n + m) (xs ++ news) ∧
      Only T w0 w' ∧ Below w0.heap.size w w' := by
  obtain ⟨v', w', hrun, h2, h3, _⟩ := run_append_sl (P := P) w w0.heap.size t ty e i z bytes ht hi hz hsize hby hzs v n xs hown A m c news hr h1 h63 hbytes on.size
  obtain ⟨A', c', rfl, _, _⟩ := own_slice h2
  have hb : ∀ k, k < w0.heap.size → w'.heap[k]? = w.heap[k]? := fun k hk => h3.block k (Nat.lt_of_lt_of_le hk on.size) (fun e => by have := hown.lt k e.symm; omega)
  refine ⟨A', c', w', hrun, h2, ⟨h3.os.trans on.os, h3.tape.trans on.tape, h3.output.trans on.output, Nat.le_trans on.size h3.size, fun k hk hn => (hb k hk).trans (on.block k hk hn)⟩, ⟨h3.os, h3.tape, h3.output, h3.size, hb⟩⟩
theorem IsDev.below {tD tC : TypeId} {w w' : World} {g cb cap B : Nat} {D : Dev} (h : IsDev tD tC w g cb cap D) (hb : Below B w w') (h1 : g < B) (h2 : cb < B) : IsDev tD tC w' g cb cap D :=
  ⟨(hb.block g h1).trans h.head, let ⟨cs, hbl, hp⟩ := h.body; ⟨cs, (hb.block cb h2).trans hbl, hp⟩, h.ne, h.ok, h.few, h.cap_le⟩
theorem IsDev.ready {tD tC : TypeId} {w : World} {g cb cap : Nat} {D : Dev} (h : IsDev tD tC w g cb cap D) {i : Nat} (hi : i < D.lines.length) :
    ∃ cs, Blk w cb tC cs ∧ (∀ (o : Nat) (l : List UInt8), l.length = 64 → o + 64 ≤ 193 → i * 193 + o + (l.map B).toArray.size ≤ cs.size) ∧
      ∀ (o : Nat) (l : List UInt8) (y : Line), o + l.length ≤ 193 → cellsOf y = (cellsOf D.lines[i]).take o ++ l.map B ++ (cellsOf D.lines[i]).drop (o + (l.map B).length) → y.Ok →
        ∀ w', Blk w' cb tC (FuMem.splice cs (i * 193 + o) (l.map B).toArray.toList) → Only [cb] w w' → IsDev tD tC w' g cb cap { D with lines := D.lines.set i y } := by
  obtain ⟨cs, hb, hp⟩ := h.body
  have hs := body_size h.ok hp
  have hi2 : (i + 1) * 193 ≤ D.lines.length * 193 := Nat.mul_le_mul_right _ hi
  refine ⟨cs, hb, fun o l hl ho => ?_, fun o l y ho hy hyo w' hb' on => ?_⟩
  · rw [List.size_toArray, List.length_map, hl]
    omega
  · exact h.write hi (o := o) (vs := l.map B) (by rw [List.length_map]; exact ho) hy hyo cs hp hb' on
def isLost (keep : List Int) (i : Nat) (x : Line) : Bool := (x.now != x.kept) && !(decide ((i : Int) ∈ keep))
def cutL (keep : List Int) (i : Nat) (x : Line) : Line :=
  if (x.now != x.kept) = true ∧ (i : Int) ∈ keep then { x with kept := x.now, sent := false } else { x with now := x.kept, sent := false }
def lostTo (keep : List Int) (L : List Line) (i : Nat) : List Int := ((List.range i).filter fun j => (L[j]?.map (isLost keep j)).getD false).map fun (j : Nat) => (j : Int)
theorem lostTo_succ (keep : List Int) (L : List Line) (i : Nat) (hi : i < L.length) : lostTo keep L (i + 1) = if isLost keep i L[i] = true then lostTo keep L i ++ [(i : Int)] else lostTo keep L i := by
  unfold lostTo
  rw [List.range_succ, List.filter_append, List.map_append]
  by_cases h : isLost keep i L[i] = true
  · rw [if_pos h]
    simp [List.getElem?_eq_getElem hi, h]
  · rw [if_neg h]
    simp [List.getElem?_eq_getElem hi, h]
theorem lostTo_length (keep : List Int) (L : List Line) (i : Nat) : (lostTo keep L i).length ≤ i := by
  unfold lostTo
  rw [List.length_map]
  exact Nat.le_trans (List.length_filter_le _ _) (by simp)
theorem is_only_pos {w w' : World} {S : List Nat} {A : Option Addr} {n : Nat} {l : List Int} (h : Is w A n l) (ho : Only S w w') (hs : 0 < n → ∀ b off s, A = some ⟨b, off, s⟩ → b ∉ S) : Is w' A n l := by
  rcases Nat.eq_zero_or_pos n with rfl | hp
  · have := h.len
    obtain rfl : l = [] := List.length_eq_zero_iff.1 this
    exact Is.nil _ _
  · exact h.only ho (hs hp)
def cutD (D : Dev) (keep : List Int) : Dev := { D with lines := D.lines.mapIdx (cutL keep), cuts := wrap64 (D.cuts + 1) }
set_option maxHeartbeats 2000000 in
theorem nvm_Cut (g cb cap : Nat) (D : Dev) (A : Option Addr) (an ac : Nat) (keep : List Int) (w : World) (hd : DevAt w g cb cap D) (hk : Is w A an keep) (han : an ≤ 1000000) (hsafe : 0 < an → ∀ b off s, A = some ⟨b, off, s⟩ → b ≠ g ∧ b ≠ cb) :
    Calls Try.prog 35 #[.pointer (some ⟨g, 0, none⟩), .slice A an ac] w fun e w' => ∃ A' c', e = .returned (.tuple #[.slice A' (lostTo keep D.lines D.lines.length).length c', .int .i64 0]) ∧
      w'.ownsRow w.heap.size 3 1 (.slice A' (lostTo keep D.lines D.lines.length).length c') (lostTo keep D.lines D.lines.length).length ((lostTo keep D.lines D.lines.length).map (.int .i64)) ∧ DevAt w' g cb cap (cutD D keep) ∧ Only [g, cb] w w' := by
  have hc : w.cell? ⟨g, 0, none⟩ = some (.slice (some ⟨cb, 0, none⟩) D.lines.length cap) := hd.cell 0
  have hf := hd.few
  have hg1 := hd.lt1
  have hg2 := hd.lt2
  have HD := Lib.hid hd
  have HK := Lib.hid hk
  have HSF := Lib.hid hsafe
  clear hd hk hsafe
  obtain ⟨m, hm⟩ : ∃ m, m = D.lines.length := ⟨_, rfl⟩
  rw [← hm] at hc hf ⊢
  have HM := Lib.hid hm
  clear hm
  obtain ⟨i0, hi, hz0, hz1, hz2⟩ := info_parts Try.intInfo
  have HI := Lib.hid hi
  have HZ0 := Lib.hid hz0
  have HZ1 := Lib.hid hz1
  have HZ2 := Lib.hid hz2
  clear hi hz0 hz1 hz2
  go_enter Try.func35, Try.ntmps35
  go_wp2
  go_loopw [6, 7, 8, 16] (fun v _ _ i wr => ∃ (k n : Nat), k ≤ m ∧ i = .int .i64 k ∧ n = (lostTo keep D.lines k).length ∧ wr.ownsRow w.heap.size 3 1 v n ((lostTo keep D.lines k).map (.int .i64)) ∧ DevAt wr g cb cap { D with lines := upTo (cutL keep) D.lines k } ∧ Only [g, cb] w wr) (fun _ _ _ i _ => m - (intOf i).toNat)
  case atStart => exact ⟨0, 0, Nat.zero_le _, rfl, rfl, own_nil _ _ _ _, by rw [upTo_zero]; exact HD.out, Only.refl _ _⟩
  case round =>
    obtain ⟨k, n, hk, rfl, hn, ho, hd, on⟩ := hrel
    have hnk := lostTo_length keep D.lines k
    have hc0 : wr.cell? ⟨g, 0, none⟩ = some (.slice (some ⟨cb, 0, none⟩) m cap) := by
      rw [hd.cell 0]
      simp [headOf, upTo_length, HM.out]
    by_cases hlt : k < m
    · have hkl : k < D.lines.length := by rw [← HM.out]; exact hlt
      have hkl2 : k < (upTo (cutL keep) D.lines k).length := by rw [upTo_length]; exact hkl
      obtain ⟨hq1, hq2⟩ := List.getElem?_eq_some_iff.1 (upTo_get (cutL keep) D.lines k hkl)
      have hok := HD.out.ok.get hkl
      have hwh := IsDev.whole hd (i := k) hkl2
      simp only [hq2] at hwh
      have hsz : (Try.prog.info? 94).map (·.size) = some (cellsOf D.lines[k]).length := by rw [cellsOf_length hok]; exact cellSize
      have hkeepw := is_only_pos HK.out on (by intro hp b off s e hb; have := HSF.out hp b off s e; simp at hb; omega)
      have hsu := lostTo_succ keep D.lines k hkl
      have hup := upTo_succ (cutL keep) D.lines k hkl
      have HSZ := Lib.hid hsz
      have HOK := Lib.hid hok
      have HO := Lib.hid ho
      have ON := Lib.hid on
      have HN := Lib.hid hn
      have HDR := Lib.hid hd
      have HQ := Lib.hid hq2
      have HKW := Lib.hid hkeepw
      have HSU := Lib.hid hsu
      have HUP := Lib.hid hup
      clear hsz hok ho on hn hd hq2 hkeepw hsu hup
      have HCL := Lib.hid (fun w => cell_loose (D.lines[k]) HOK.out w)
      by_cases hp : ((D.lines[k]).now != (D.lines[k]).kept) = true
      · by_cases hin : (k : Int) ∈ keep
        · have HF := Lib.hid (show cutL keep k (D.lines[k]) = { D.lines[k] with kept := (D.lines[k]).now, sent := false } by unfold cutL; rw [if_pos ⟨hp, hin⟩])
          have HLK := Lib.hid (show isLost keep k (D.lines[k]) = false by unfold isLost; simp [hin])
          have hin' : decide ((k : Int) ∈ keep) = true := by simpa using hin
          clear hin
          go_wp2_with ((with_reducible show wpList _ _ _ (Oper.mk (some 27) _ _ _ _ _ :: _) _ _); refine wpList_load_line rfl 94 (.tmp 26) rfl cb (k * 193) rfl (D.lines[k]) hwh _ Try.underlying94 rfl HSZ.out ?_)
          refine (HCL.out wr).mono ?_
          rintro e w1 ⟨rfl, o1⟩
          have HD1 := Lib.hid (IsDev.only0 HDR.out o1)
          have HW1 := Lib.hid (own_only HO.out o1 (by simp))
          have ON1 := Lib.hid (ON.out.trans0 o1)
          have HK1 := Lib.hid (Is.only0 HKW.out o1)
          clear o1
          go_wp2_with fail
          refine (contains_ints A an ac keep k w1 HK1.out han).mono ?_
          rintro e w' ⟨rfl, rfl⟩
          obtain ⟨cs0, hb0, hfit0, hwr0⟩ := IsDev.ready HD1.out (i := k) (by simpa using hkl2)
          have hnow := IsDev.now HD1.out (i := k) (by simpa using hkl2)
          simp only [HQ.out] at hnow
          have hlen0 : (D.lines[k]).now.length = 64 := HOK.out.1
          rw [← hlen0] at hnow
          have HS10 := Lib.hid (show (Try.prog.info? 92).map (·.size) = some (D.lines[k]).now.length by rw [hlen0]; exact lineSize)
          have HS20 := Lib.hid (show (Try.prog.info? 92).map (·.size) = some ((D.lines[k]).now.map B).toArray.size by rw [List.size_toArray, List.length_map, hlen0]; exact lineSize)
          have hft0 := hfit0 64 ((D.lines[k]).now) hlen0 (by omega)
          have HWR0 := Lib.hid (hwr0 64 ((D.lines[k]).now) { D.lines[k] with kept := (D.lines[k]).now } (by rw [hlen0]; omega) (by simp only [HQ.out]; exact cells_kept _ HOK.out _ hlen0) ⟨hlen0, hlen0, HOK.out.2.2⟩)
          have HL0 := Lib.hid hlen0
          clear hlen0 hfit0 hwr0
          go_wp2_with (first
            | ((with_reducible show wpList _ _ _ (Oper.mk (some 36) _ _ _ _ _ :: _) _ _); refine wpList_load_arr rfl 92 (.tmp 35) rfl cb (k * 193) rfl (D.lines[k]).now hnow 64 5 Try.underlying92 HS10.out ?_)
            | ((with_reducible show wpList _ _ _ (Oper.mk none _ _ _ _ _ :: _) _ _); refine wpList_store_blk rfl 92 (.tmp 38) (.tmp 36) rfl cb (k * 193 + 64) ((D.lines[k]).now.map B).toArray rfl rfl 94 cs0 hb0 hft0 HS20.out (all_B _) ?_; intro w4 hb4 ho4 hs4)
            | ((with_reducible show wpList _ _ _ (Oper.mk (some 46) _ _ _ _ _ :: _) _ _); refine Hid.out ?_))
          have HD4 := Lib.hid (HWR0.out w4 hb4 ho4)
          have HW4 := Lib.hid (own_only HW1.out ho4 (by intro b hb2; have := World.ownsRow.lt HW1.out b hb2; simp; omega))
          have ON4 := Lib.hid (ON1.out.trans ho4 (by simp))
          have HOK4 := Lib.hid (show ({ D.lines[k] with kept := (D.lines[k]).now } : Line).Ok from ⟨HOK.out.1, HOK.out.1, HOK.out.2.2⟩)
          have hc4 : w4.cell? ⟨g, 0, none⟩ = some (.slice (some ⟨cb, 0, none⟩) m cap) := by
            rw [IsDev.cell HD4.out 0]
            simp [headOf, upTo_length, HM.out]
          clear hb4 ho4 hs4 hb0 hft0 hnow
          refine Lib.hid ?_
          obtain ⟨cs, hb, hfit, hwr⟩ := IsDev.ready HD4.out (i := k) (by simpa using hkl2)
          have hkpt := IsDev.kept HD4.out (i := k) (by simpa using hkl2)
          simp only [List.getElem_set_self] at hkpt
          have hlen : ((D.lines[k]).now).length = 64 := HOK4.out.2.1
          have hkpt' : Bs w4 (some ⟨cb, k * 193 + 64, none⟩) ((D.lines[k]).now).length ((D.lines[k]).now) := by rw [hlen]; exact hkpt
          have HS1 := Lib.hid (show (Try.prog.info? 92).map (·.size) = some ((D.lines[k]).now).length by rw [hlen]; exact lineSize)
          have HS2 := Lib.hid (show (Try.prog.info? 92).map (·.size) = some (((D.lines[k]).now).map B).toArray.size by rw [List.size_toArray, List.length_map, hlen]; exact lineSize)
          have hft := hfit 0 ((D.lines[k]).now) hlen (by omega)
          have HWR := Lib.hid (hwr 0 ((D.lines[k]).now) { ({ D.lines[k] with kept := (D.lines[k]).now } : Line) with now := (D.lines[k]).now } (by rw [hlen]; omega) (by simp only [List.getElem_set_self]; exact cells_now _ HOK4.out _ hlen) ⟨hlen, hlen, HOK4.out.2.2⟩)
          clear hkpt hlen hfit hwr
          go_wp2_with (first
            | ((with_reducible show wpList _ _ _ (Oper.mk (some 48) _ _ _ _ _ :: _) _ _); refine wpList_load_arr rfl 92 (.tmp 47) rfl cb (k * 193 + 64) rfl ((D.lines[k]).now) hkpt' 64 5 Try.underlying92 HS1.out ?_)
            | ((with_reducible show wpList _ _ _ (Oper.mk none _ _ _ _ _ :: _) _ _); refine wpList_store_blk rfl 92 (.tmp 50) (.tmp 48) rfl cb (k * 193 + 0) (((D.lines[k]).now).map B).toArray rfl rfl 94 cs hb hft HS2.out (all_B _) ?_; intro w5 hb5 ho5 hs5;
                have hd5 := HWR.out w5 hb5 ho5;
                have hsc := IsDev.sentCell hd5 (i := k) (by simpa using hkl2); have hfz := IsDev.frozen2 hd5 (k * 193 + 192); simp only [List.getElem_set_self] at hsc))
          have hsw := IsDev.setSent hd5 (i := k) (by simpa using hkl2) false
          have he : ∀ D' : Dev, D' = { D with lines := upTo (cutL keep) D.lines (k + 1) } → DevAt (w5.setCell ⟨cb, k * 193 + 192, none⟩ (.bool false)) g cb cap D' → DevAt (w5.setCell ⟨cb, k * 193 + 192, none⟩ (.bool false)) g cb cap { D with lines := upTo (cutL keep) D.lines (k + 1) } := by
            rintro D' rfl h
            exact h
          have HD3 := Lib.hid (he _ (by
            rw [← HUP.out, HF.out]
            simp) hsw.1)
          have hmv := ho5.trans hsw.2 (T := [cb]) (by simp)
          have HR3 := Lib.hid (own_only HW4.out hmv (by intro b hb2; have := World.ownsRow.lt HW4.out b hb2; simp; omega))
          have ON3 := Lib.hid (ON4.out.trans hmv (by simp))
          clear he hsw hd5 hb5 ho5 hb hkpt' hmv hsc hfz
          go_roundw
          case rel => exact ⟨k + 1, n, by omega, by go_num, by rw [HSU.out, HLK.out]; first | exact HN.out | (rw [if_pos rfl, List.length_append, HN.out]; rfl), by rw [HSU.out, HLK.out]; exact HR3.out, HD3.out, ON3.out⟩
          case measure => simp [intOf]; omega
        · have HF := Lib.hid (show cutL keep k (D.lines[k]) = { D.lines[k] with now := (D.lines[k]).kept, sent := false } by unfold cutL; rw [if_neg (fun h => hin h.2)])
          have HLK := Lib.hid (show isLost keep k (D.lines[k]) = true by unfold isLost; simp [hp, hin])
          have hin' : decide ((k : Int) ∈ keep) = false := by simpa using hin
          clear hin
          go_wp2_with ((with_reducible show wpList _ _ _ (Oper.mk (some 27) _ _ _ _ _ :: _) _ _); refine wpList_load_line rfl 94 (.tmp 26) rfl cb (k * 193) rfl (D.lines[k]) hwh _ Try.underlying94 rfl HSZ.out ?_)
          refine (HCL.out wr).mono ?_
          rintro e w1 ⟨rfl, o1⟩
          have HD1 := Lib.hid (IsDev.only0 HDR.out o1)
          have HW1 := Lib.hid (own_only HO.out o1 (by simp))
          have ON1 := Lib.hid (ON.out.trans0 o1)
          have HK1 := Lib.hid (Is.only0 HKW.out o1)
          clear o1
          go_wp2_with fail
          refine (contains_ints A an ac keep k w1 HK1.out han).mono ?_
          rintro e w' ⟨rfl, rfl⟩
          obtain ⟨A2, c2, w2, hr, ho2, on2, bl2⟩ := append_ownB (P := Try.prog) (w1.alloc (.cells #[.int .i64 (k : Int)] 3)) (ON1.out.alloc _) 34 34 3 i0 _ 8 Try.underlying34 HI.out HZ0.out HZ1.out HZ2.out rfl _ n _ (HW1.out.alloc _) (some ⟨w1.heap.size, 0, none⟩) 1 1 [.int .i64 (k : Int)] (cell_new1 _ _ _) (ints_new1 _ _) (by have := HN.out; unfold maxLen; omega) (by have := HN.out; omega)
          rw [show (lostTo keep D.lines k).map (Value.int .i64) ++ [.int .i64 (k : Int)] = (lostTo keep D.lines k ++ [(k : Int)]).map (.int .i64) by simp] at ho2
          have HD2 := Lib.hid (IsDev.below (IsDev.only0 HD1.out ((Only.refl [] w1).alloc (.cells #[.int .i64 (k : Int)] 3))) bl2 hg1 hg2)
          have HW2 := Lib.hid ho2
          have ON2 := Lib.hid on2
          have hc2 : w2.cell? ⟨g, 0, none⟩ = some (.slice (some ⟨cb, 0, none⟩) m cap) := by
            rw [IsDev.cell HD2.out 0]
            simp [headOf, upTo_length, HM.out]
          clear ho2 on2 bl2
          obtain ⟨cs, hb, hfit, hwr⟩ := IsDev.ready HD2.out (i := k) (by simpa using hkl2)
          have hkpt := IsDev.kept HD2.out (i := k) (by simpa using hkl2)
          simp only [HQ.out] at hkpt
          have hlen : ((D.lines[k]).kept).length = 64 := HOK.out.2.1
          have hkpt' : Bs w2 (some ⟨cb, k * 193 + 64, none⟩) ((D.lines[k]).kept).length ((D.lines[k]).kept) := by rw [hlen]; exact hkpt
          have HS1 := Lib.hid (show (Try.prog.info? 92).map (·.size) = some ((D.lines[k]).kept).length by rw [hlen]; exact lineSize)
          have HS2 := Lib.hid (show (Try.prog.info? 92).map (·.size) = some (((D.lines[k]).kept).map B).toArray.size by rw [List.size_toArray, List.length_map, hlen]; exact lineSize)
          have hft := hfit 0 ((D.lines[k]).kept) hlen (by omega)
          have HWR := Lib.hid (hwr 0 ((D.lines[k]).kept) { D.lines[k] with now := (D.lines[k]).kept } (by rw [hlen]; omega) (by simp only [HQ.out]; exact cells_now _ HOK.out _ hlen) ⟨hlen, hlen, HOK.out.2.2⟩)
          clear hkpt hlen hfit hwr
          go_wp2_with (first
            | (at_builtin; refine wpList_append_run _ rfl (.tmp 39) (.tmp 41) 34 rfl _ _ rfl rfl _ _ hr ?_)
            | ((with_reducible show wpList _ _ _ (Oper.mk (some 48) _ _ _ _ _ :: _) _ _); refine wpList_load_arr rfl 92 (.tmp 47) rfl cb (k * 193 + 64) rfl ((D.lines[k]).kept) hkpt' 64 5 Try.underlying92 HS1.out ?_)
            | ((with_reducible show wpList _ _ _ (Oper.mk none _ _ _ _ _ :: _) _ _); refine wpList_store_blk rfl 92 (.tmp 50) (.tmp 48) rfl cb (k * 193 + 0) (((D.lines[k]).kept).map B).toArray rfl rfl 94 cs hb hft HS2.out (all_B _) ?_; intro w5 hb5 ho5 hs5;
                have hd5 := HWR.out w5 hb5 ho5;
                have hsc := IsDev.sentCell hd5 (i := k) (by simpa using hkl2); have hfz := IsDev.frozen2 hd5 (k * 193 + 192); simp only [List.getElem_set_self] at hsc))
          have hsw := IsDev.setSent hd5 (i := k) (by simpa using hkl2) false
          have he : ∀ D' : Dev, D' = { D with lines := upTo (cutL keep) D.lines (k + 1) } → DevAt (w5.setCell ⟨cb, k * 193 + 192, none⟩ (.bool false)) g cb cap D' → DevAt (w5.setCell ⟨cb, k * 193 + 192, none⟩ (.bool false)) g cb cap { D with lines := upTo (cutL keep) D.lines (k + 1) } := by
            rintro D' rfl h
            exact h
          have HD3 := Lib.hid (he _ (by
            rw [← HUP.out, HF.out]
            simp) hsw.1)
          have hmv := ho5.trans hsw.2 (T := [cb]) (by simp)
          have HR3 := Lib.hid (own_only HW2.out hmv (by intro b hb2; have := World.ownsRow.lt HW2.out b hb2; simp; omega))
          have ON3 := Lib.hid (ON2.out.trans hmv (by simp))
          clear he hsw hd5 hb5 ho5 hb hkpt' hmv hsc hfz
          go_roundw
          case rel => exact ⟨k + 1, n + 1, by omega, by go_num, by rw [HSU.out, HLK.out]; first | exact HN.out | (rw [if_pos rfl, List.length_append, HN.out]; rfl), by rw [HSU.out, HLK.out]; exact HR3.out, HD3.out, ON3.out⟩
          case measure => simp [intOf]; omega
      · have hp0 : ((D.lines[k]).now != (D.lines[k]).kept) = false := by simpa using hp
        have HF := Lib.hid (show cutL keep k (D.lines[k]) = { D.lines[k] with now := (D.lines[k]).kept, sent := false } by unfold cutL; rw [if_neg (fun h => hp h.1)])
        have HLK := Lib.hid (show isLost keep k (D.lines[k]) = false by unfold isLost; rw [hp0]; rfl)
        clear hp
        go_wp2_with ((with_reducible show wpList _ _ _ (Oper.mk (some 27) _ _ _ _ _ :: _) _ _); refine wpList_load_line rfl 94 (.tmp 26) rfl cb (k * 193) rfl (D.lines[k]) hwh _ Try.underlying94 rfl HSZ.out ?_)
        refine (HCL.out wr).mono ?_
        rintro e w1 ⟨rfl, o1⟩
        have HD1 := Lib.hid (IsDev.only0 HDR.out o1)
        have HW1 := Lib.hid (own_only HO.out o1 (by simp))
        have ON1 := Lib.hid (ON.out.trans0 o1)
        have HK1 := Lib.hid (Is.only0 HKW.out o1)
        clear o1
        obtain ⟨cs, hb, hfit, hwr⟩ := IsDev.ready HD1.out (i := k) (by simpa using hkl2)
        have hkpt := IsDev.kept HD1.out (i := k) (by simpa using hkl2)
        simp only [HQ.out] at hkpt
        have hlen : ((D.lines[k]).kept).length = 64 := HOK.out.2.1
        have hkpt' : Bs w1 (some ⟨cb, k * 193 + 64, none⟩) ((D.lines[k]).kept).length ((D.lines[k]).kept) := by rw [hlen]; exact hkpt
        have HS1 := Lib.hid (show (Try.prog.info? 92).map (·.size) = some ((D.lines[k]).kept).length by rw [hlen]; exact lineSize)
        have HS2 := Lib.hid (show (Try.prog.info? 92).map (·.size) = some (((D.lines[k]).kept).map B).toArray.size by rw [List.size_toArray, List.length_map, hlen]; exact lineSize)
        have hft := hfit 0 ((D.lines[k]).kept) hlen (by omega)
        have HWR := Lib.hid (hwr 0 ((D.lines[k]).kept) { D.lines[k] with now := (D.lines[k]).kept } (by rw [hlen]; omega) (by simp only [HQ.out]; exact cells_now _ HOK.out _ hlen) ⟨hlen, hlen, HOK.out.2.2⟩)
        clear hkpt hlen hfit hwr
        go_wp2_with (first
          | ((with_reducible show wpList _ _ _ (Oper.mk (some 48) _ _ _ _ _ :: _) _ _); refine wpList_load_arr rfl 92 (.tmp 47) rfl cb (k * 193 + 64) rfl ((D.lines[k]).kept) hkpt' 64 5 Try.underlying92 HS1.out ?_)
          | ((with_reducible show wpList _ _ _ (Oper.mk none _ _ _ _ _ :: _) _ _); refine wpList_store_blk rfl 92 (.tmp 50) (.tmp 48) rfl cb (k * 193 + 0) (((D.lines[k]).kept).map B).toArray rfl rfl 94 cs hb hft HS2.out (all_B _) ?_; intro w5 hb5 ho5 hs5;
              have hd5 := HWR.out w5 hb5 ho5;
              have hsc := IsDev.sentCell hd5 (i := k) (by simpa using hkl2); have hfz := IsDev.frozen2 hd5 (k * 193 + 192); simp only [List.getElem_set_self] at hsc))
        have hsw := IsDev.setSent hd5 (i := k) (by simpa using hkl2) false
        have he : ∀ D' : Dev, D' = { D with lines := upTo (cutL keep) D.lines (k + 1) } → DevAt (w5.setCell ⟨cb, k * 193 + 192, none⟩ (.bool false)) g cb cap D' → DevAt (w5.setCell ⟨cb, k * 193 + 192, none⟩ (.bool false)) g cb cap { D with lines := upTo (cutL keep) D.lines (k + 1) } := by
          rintro D' rfl h
          exact h
        have HD3 := Lib.hid (he _ (by
          rw [← HUP.out, HF.out]
          simp) hsw.1)
        have hmv := ho5.trans hsw.2 (T := [cb]) (by simp)
        have HR3 := Lib.hid (own_only HW1.out hmv (by intro b hb2; have := World.ownsRow.lt HW1.out b hb2; simp; omega))
        have ON3 := Lib.hid (ON1.out.trans hmv (by simp))
        clear he hsw hd5 hb5 ho5 hb hkpt' hmv hsc hfz
        go_roundw
        case rel => exact ⟨k + 1, n, by omega, by go_num, by rw [HSU.out, HLK.out]; first | exact HN.out | (rw [if_pos rfl, List.length_append, HN.out]; rfl), by rw [HSU.out, HLK.out]; exact HR3.out, HD3.out, ON3.out⟩
        case measure => simp [intOf]; omega
    · obtain rfl : k = m := by omega
      have hall : upTo (cutL keep) D.lines k = D.lines.mapIdx (cutL keep) := by rw [HM.out, upTo_all]
      rw [hall] at hd
      obtain ⟨A', c', rfl, _, _⟩ := own_slice ho
      subst hn
      have hc5 := hd.cell 5
      have hf5 := hd.frozen1 5
      have hcnt := IsDev.count (D' := cutD D keep) hd 5 (wrap64 (D.cuts + 1)) rfl (by unfold cutD headOf; simp)
      have HR5 := Lib.hid (own_only ho hcnt.2 (by intro b hb2; have := World.ownsRow.lt ho b hb2; simp; omega))
      have HCN := Lib.hid hcnt
      have ON := Lib.hid on
      clear hd on hall hcnt ho
      go_wp2_with fail
      refine (int64_Add g 5 D.cuts _ hc5 hf5).mono ?_
      rintro e w3 ⟨rfl, rfl⟩
      go_wp2
      go_ret2
      exact ⟨A', c', rfl, HR5.out, HCN.out.1, ON.out.trans HCN.out.2 (by simp)⟩
end Go.Proofs.Ytfafpggppbolkaa
