/- The contracts of palloc: Mark, Slabs. -/
import Derived.Test.YtpenmnngjfncgaaPoolE
import Derived.Test.YtpenmnngjfncgaaMemC
namespace Go.Proofs.FuMem
open Go.RowKit
/-- a whole struct is written over a block -/
theorem wpList_store_all {P : Program} {w : World} {ops : Array Oper} {rest : List Oper} {o : Oper} {a : Act} {Q : Exit → Act → World → Prop} (hgd : o.guard = none) (T : TypeId) (x y : Operand) (ho : o.op = .store T x y) (g : Nat) (vs : Array Value) (hx : a.eval x = .pointer (some ⟨g, 0, none⟩)) (hy : a.eval y = .agg vs)
    (t : TypeId) (cs : Array Value) (hb : Blk w g t cs) (hfit : vs.size = cs.size) (hi : (P.info? T).map (·.size) = some vs.size) (h1 : vs.all (·.oneCell') = true)
    (h : ∀ w', Blk w' g t vs → Only [g] w w' → wpList P ops Q rest (a.put o.dst undef) w') : wpList P ops Q (o :: rest) a w :=
  wpList_store_blk hgd T x y ho g 0 vs hx hy t cs hb (by omega) hi h1 fun w' hb' ho' _ => h w' (by
    have e : FuMem.splice cs 0 vs.toList = vs := by
      unfold FuMem.splice
      apply Array.ext'
      simp
      omega
    rwa [e] at hb') ho'
/-- append to a row of the call's own, of elements of any size -/
theorem append_ownS {P : Program} (w : World) {w0 : World} {T : List Nat} (on : Only T w0 w) (t ty e : TypeId) (i : TypeInfo) (z : Value) (size bytes : Nat) (ht : P.underlying t = some (.slice e)) (hi : P.info? e = some i) (hz : i.zero = some z)
    (hsize : i.size = size) (hby : i.bytes = bytes) (hzs : z.cells.size = size) (hsz : 0 < size)
    (v : Value) (n : Nat) (xs : List Value) (hown : w.ownsRow w0.heap.size e size v n xs)
    (a : Addr) (m c : Nat) (news : List Value) (hl : news.length = m * size) (hnews : ∀ j u, news[j]? = some u → w.cell? (a.add j) = some u) (h1 : ∀ u ∈ news, u.oneCell' = true)
    (h63 : n + m ≤ maxLen) (hbytes : (n + m) * bytes ≤ 140737488355328) :
    ∃ A' c' w', (Builtin.append_ #[t, t] ty #[v, .slice (some a) m c]).run P w = .ok (.slice A' (n + m) c') w' ∧ w'.ownsRow w0.heap.size e size (.slice A' (n + m) c') (n + m) (xs ++ news) ∧ Only T w0 w' := by
  obtain ⟨v', w', hrun, h2, h3, _⟩ := run_append_own_at (P := P) w w0.heap.size t ty e i z size bytes ht hi hz hsize hby hzs hsz v n xs hown a m c news hl hnews h1 h63 hbytes on.size
  obtain ⟨A', c', rfl, _, _⟩ := own_slice h2
  refine ⟨A', c', w', hrun, h2, ?_⟩
  exact ⟨h3.os.trans on.os, h3.tape.trans on.tape, h3.output.trans on.output, Nat.le_trans on.size h3.size, fun k hk hn =>
    (h3.block k (Nat.lt_of_lt_of_le hk on.size) (fun e => by have := hown.lt k e.symm; omega)).trans (on.block k hk hn)⟩
end Go.Proofs.FuMem
namespace Go.Proofs.Ytpenmnngjfncgaa
open Go.RowKit Go.Proofs.FuMem Go.Proofs.FuClass Go.Proofs.FuPool
set_option maxRecDepth 100000
set_option maxHeartbeats 800000 in
theorem pool_Mark (g sb : Nat) (P : Pool) (line c : Int) (w : World) (h : PoolAt w g sb P) (_hP : Ok P) (hc : -9223372036854775808 ≤ c ∧ c ≤ 9223372036854775807) :
    Calls Try.prog 24 #[.pointer (some ⟨g, 0, none⟩), .int .i64 line, .int .i64 c] w fun e w' => e = .returned (.int .i64 (markA P line c)) ∧ PoolAt w' g sb (markP P line c) ∧ Only [sb] w w' := by
  have HSO := Lib.hid (fun w => geom_SlabOf line w)
  have HHO := Lib.hid (fun w => class_Home line c w hc)
  have hb := slabOf_bd line
  have h32 := h.n32
  have HP := Lib.hid h
  by_cases hh : home line c = true
  case neg =>
    have hh2 : home line c = false := by simpa using hh
    have HE := Lib.hid (show markA P line c = 1 from if_pos (.inl hh2))
    have HN := Lib.hid (show markP P line c = P by unfold markP; rw [HE.out]; rfl)
    rw [hh2] at HHO
    clear h hh hh2
    generalize slabOf line = i at *
    go_enter Try.func24, Try.ntmps24
    go_wp2_with fail
    refine (HSO.out _).mono ?_
    rintro e w' ⟨rfl, rfl⟩
    go_wp2_with fail
    refine (HHO.out _).mono ?_
    rintro e w2 ⟨rfl, o2⟩
    have O2 := Lib.hid o2
    clear o2
    go_wp2
    go_ret
    exact ⟨by rw [HE.out]; rfl, by rw [HN.out]; exact HP.out.only0 O2.out, O2.out.mono (by simp)⟩
  obtain ⟨i, k, hi, e1, hk, hl, c0, c3, e2⟩ := home_some hh
  rw [hh] at HHO
  rw [e1] at HSO
  have HA := Lib.hid (fun w (h : PoolAt w g sb P) => pool_all g sb P w h)
  have y1 : (0 : Int) ≤ (i : Int) := by omega
  by_cases hlt : i < P.length
  case neg =>
    have HE := Lib.hid (show markA P line c = 1 from if_pos (.inr (by omega)))
    have HN := Lib.hid (show markP P line c = P by unfold markP; rw [HE.out]; rfl)
    have q1 : decide ((P.length : Int) ≤ (i : Int)) = true := by rw [decide_eq_true_eq]; omega
    clear h hh hl e1 e2 hk
    go_enter Try.func24, Try.ntmps24
    go_wp2_with fail
    refine (HSO.out _).mono ?_
    rintro e w' ⟨rfl, rfl⟩
    go_wp2_with fail
    refine (HHO.out _).mono ?_
    rintro e w2 ⟨rfl, o2⟩
    have O2 := Lib.hid o2
    have P2 := Lib.hid (HP.out.only0 o2)
    clear o2
    go_wp2_with fail
    refine (HA.out _ P2.out).mono ?_
    rintro e w' ⟨rfl, rfl⟩
    generalize P.length = n at *
    go_wp2
    go_ret
    exact ⟨by rw [HE.out]; rfl, by rw [HN.out]; exact P2.out, O2.out.mono (by simp)⟩
  obtain ⟨s, hs⟩ : ∃ s, P[i]? = some s := ⟨_, List.getElem?_eq_getElem hlt⟩
  have hm := many_span ⟨c0, c3⟩
  have q1 : decide ((P.length : Int) ≤ (i : Int)) = false := by rw [decide_eq_false_iff_not]; omega
  have y2 : (i : Int) < (P.length : Int) := by omega
  have z1 : (0 : Int) ≤ (k : Int) := by omega
  have z2 : (k : Int) < 8 := by omega
  rw [e1] at e2
  have HST := Lib.hid (fun w => class_Starts (i : Int) c w hc)
  have hsl := starts_length (i : Int) c
  have hmk : markA P line c = if (s.cls ≠ -1 ∧ s.cls ≠ c) ∨ s.at k = true then 7 else 0 := by
    unfold markA
    rw [if_neg (by rw [hh, e1]; simp; omega), e1, Int.toNat_natCast, hs, e2]
    rfl
  have HMK := Lib.hid hmk
  have hmp : markA P line c = 0 → markP P line c = P.modify i fun s => s.take c k := fun h0 => by
    unfold markP
    rw [if_pos h0, e1, e2]
    rfl
  have HMP := Lib.hid hmp
  have HS := Lib.hid hs
  have HTK := Lib.hid (fun w (h : PoolAt w g sb P) (hf : s.at k = false) => slab_take g sb P i k c s w h hs (by omega) hf)
  have HHD := Lib.hid (fun w (h : PoolAt w g sb P) => h.headCell)
  have HCL := Lib.hid (fun w (h : PoolAt w g sb P) => h.cls hs)
  have HMA := Lib.hid (fun w (h : PoolAt w g sb P) => h.mark hs (show k < 8 by omega))
  have E2 := Lib.hid e2
  clear h hh hs hmk hmp e1 e2 hm hl hk
  generalize hn : P.length = n at *
  clear hn
  generalize starts (i : Int) c = L at *
  generalize hcl : s.cls = cl at *
  go_enter Try.func24, Try.ntmps24
  go_wp2_with fail
  refine (HSO.out _).mono ?_
  rintro e w' ⟨rfl, rfl⟩
  go_wp2_with fail
  refine (HHO.out _).mono ?_
  rintro e w2 ⟨rfl, o2⟩
  have O2 := Lib.hid o2
  have P2 := Lib.hid (HP.out.only0 o2)
  clear o2
  go_wp2_with fail
  refine (HA.out _ P2.out).mono ?_
  rintro e w' ⟨rfl, rfl⟩
  have x0 := HHD.out w2 P2.out
  go_wp2_with fail
  refine (HST.out _).mono ?_
  rintro e w3 ⟨v3, rfl, A3, c3', rfl, b3, o3⟩
  have IX := Lib.hid (index_ints A3 L.length c3' L line w3 (is_own b3) (by omega))
  rw [E2.out] at IX
  have O3 := Lib.hid (O2.out.trans0 o3)
  have P3 := Lib.hid (P2.out.only0 o3)
  have xc := HCL.out w3 P3.out
  have xm := HMA.out w3 P3.out
  clear b3 o3 x0
  go_wp2_with fail
  refine (IX.out).mono ?_
  rintro e w' ⟨rfl, rfl⟩
  by_cases hbusy : cl ≠ -1 ∧ cl ≠ c
  · have HE := Lib.hid (show markA P line c = 7 by rw [HMK.out, if_pos (.inl hbusy)])
    have HN := Lib.hid (show markP P line c = P by unfold markP; rw [HE.out]; rfl)
    have r1 : (cl != -1) = true := by rw [bne_iff_ne]; exact hbusy.1
    have r2 : (cl != c) = true := by rw [bne_iff_ne]; exact hbusy.2
    generalize s.at k = bb at *
    clear hbusy
    go_wp2
    go_ret
    exact ⟨by rw [HE.out]; rfl, by rw [HN.out]; exact P3.out, O3.out.mono (by simp)⟩
  by_cases hat : s.at k = true
  · have HE := Lib.hid (show markA P line c = 7 by rw [HMK.out, if_pos (.inr hat)])
    have HN := Lib.hid (show markP P line c = P by unfold markP; rw [HE.out]; rfl)
    rw [hat] at xm
    clear hat
    by_cases hc1 : cl = -1
    · have r1 : (cl != -1) = false := by rw [bne_eq_false_iff_eq]; exact hc1
      clear hbusy hc1
      go_wp2
      go_ret
      exact ⟨by rw [HE.out]; rfl, by rw [HN.out]; exact P3.out, O3.out.mono (by simp)⟩
    · have r1 : (cl != -1) = true := by rw [bne_iff_ne]; exact hc1
      have r2 : (cl != c) = false := by rw [bne_eq_false_iff_eq]; omega
      clear hbusy hc1
      go_wp2
      go_ret
      exact ⟨by rw [HE.out]; rfl, by rw [HN.out]; exact P3.out, O3.out.mono (by simp)⟩
  have hat2 : s.at k = false := by simpa using hat
  have HE := Lib.hid (show markA P line c = 0 by rw [HMK.out, if_neg (by rw [not_or]; exact ⟨hbusy, hat⟩)])
  have HN := Lib.hid (HMP.out HE.out)
  have HT := Lib.hid (HTK.out w3 P3.out hat2)
  rw [hat2] at xm
  clear hat hat2
  by_cases hc1 : cl = -1
  · have r1 : (cl != -1) = false := by rw [bne_eq_false_iff_eq]; exact hc1
    clear hbusy hc1
    go_wp2_with fail
    refine HT.out.mono ?_
    rintro e w4 ⟨rfl, p4, o4⟩
    have P4 := Lib.hid p4
    have O4 := Lib.hid o4
    clear p4 o4
    go_wp2
    go_ret
    exact ⟨by rw [HE.out]; rfl, by rw [HN.out]; exact P4.out, (O3.out.mono (by simp)).trans O4.out (by simp)⟩
  · have r1 : (cl != -1) = true := by rw [bne_iff_ne]; exact hc1
    have r2 : (cl != c) = false := by rw [bne_eq_false_iff_eq]; omega
    clear hbusy hc1
    go_wp2_with fail
    refine HT.out.mono ?_
    rintro e w4 ⟨rfl, p4, o4⟩
    have P4 := Lib.hid p4
    have O4 := Lib.hid o4
    clear p4 o4
    go_wp2
    go_ret
    exact ⟨by rw [HE.out]; rfl, by rw [HN.out]; exact P4.out, (O3.out.mono (by simp)).trans O4.out (by simp)⟩
theorem pool_Mark_nil (line c : Int) (w : World) (hc : -9223372036854775808 ≤ c ∧ c ≤ 9223372036854775807) :
    Calls Try.prog 24 #[.pointer none, .int .i64 line, .int .i64 c] w fun e w' => e = .returned (.int .i64 1) ∧ Only [] w w' := by
  have HSO := Lib.hid (fun w => geom_SlabOf line w)
  have HHO := Lib.hid (fun w => class_Home line c w hc)
  have HA := Lib.hid (fun w => pool_all_nil w)
  have hb := slabOf_bd line
  by_cases hh : home line c = true
  · obtain ⟨i, k, hi, e1, -⟩ := home_some hh
    rw [hh] at HHO
    rw [e1] at HSO
    have y1 : decide ((0 : Int) ≤ (i : Int)) = true := by rw [decide_eq_true_eq]; omega
    clear hh e1 hb
    go_enter Try.func24, Try.ntmps24
    go_wp2_with fail
    refine (HSO.out _).mono ?_
    rintro e w' ⟨rfl, rfl⟩
    go_wp2_with fail
    refine (HHO.out _).mono ?_
    rintro e w2 ⟨rfl, o2⟩
    have O2 := Lib.hid o2
    clear o2
    go_wp2_with fail
    refine (HA.out _).mono ?_
    rintro e w' ⟨rfl, rfl⟩
    go_wp2
    go_ret
    exact ⟨rfl, O2.out⟩
  · have hh2 : home line c = false := by simpa using hh
    rw [hh2] at HHO
    clear hh hh2
    generalize slabOf line = i at *
    go_enter Try.func24, Try.ntmps24
    go_wp2_with fail
    refine (HSO.out _).mono ?_
    rintro e w' ⟨rfl, rfl⟩
    go_wp2_with fail
    refine (HHO.out _).mono ?_
    rintro e w2 ⟨rfl, o2⟩
    have O2 := Lib.hid o2
    clear o2
    go_wp2
    go_ret
    exact ⟨rfl, O2.out⟩
end Go.Proofs.Ytpenmnngjfncgaa
