/- The walk of the statement NvmCuts. -/
import Derived.Test.YtfafpggppbolkaaSorted
set_option maxRecDepth 100000
namespace Go.Proofs.Ytfafpggppbolkaa
open Go.RowKit Go.Proofs.FuMem Go.Proofs.FuNvm Go.Proofs.FuCode
theorem Try.bytesInfo : (Try.prog.info? 30).map (fun i => (i.zero, i.size, i.bytes)) = some (some (.slice none 0 0), 1, 24) := by kernel_rfl
/-- slices of bytes of the call's own, in blocks from m on -/
def Rows (w : World) (m : Nat) (vs : List Value) (ls : List (List UInt8)) : Prop :=
  vs.length = ls.length ∧ ∀ (j : Nat) (v : Value) (l : List UInt8), vs[j]? = some v → ls[j]? = some l → w.ownsRow m 5 1 v l.length (l.map B)
theorem Rows.only {w w' : World} {m : Nat} {vs : List Value} {ls : List (List UInt8)} {S : List Nat} (h : Rows w m vs ls) (o : Only S w w') (hs : ∀ b ∈ S, b < m) : Rows w' m vs ls :=
  ⟨h.1, fun j v l h1 h2 => own_only (h.2 j v l h1 h2) o (fun k hk hm => by have := World.ownsRow.lt (h.2 j v l h1 h2) k hk; have := hs k hm; omega)⟩
theorem own_grown {w w' : World} {base : Nat} {e : TypeId} {size : Nat} {v : Value} {n : Nat} {xs : List Value} {row : Option Nat} (h : w.ownsRow base e size v n xs) (ho : w.grownBy w' row) (hs : ∀ k, v.ownBlock = some k → row ≠ some k) : w'.ownsRow base e size v n xs := by
  refine ⟨h.1, ?_⟩
  rcases h.2 with h0 | ⟨g, cap, cur, rfl, hbg, hg, hnc, hcm, hcs, htake⟩
  · exact .inl h0
  · exact .inr ⟨g, cap, cur, rfl, hbg, (ho.block g (Array.getElem?_eq_some_iff.1 hg).1 (fun e => hs g rfl e.symm)).trans hg, hnc, hcm, hcs, htake⟩
theorem own_types {w : World} {b1 b2 : Nat} {e1 e2 : TypeId} {s1 s2 : Nat} {v u : Value} {n m : Nat} {xs ys : List Value} (h : w.ownsRow b1 e1 s1 v n xs) (k : w.ownsRow b2 e2 s2 u m ys) (hne : e1 ≠ e2) : ∀ g, v.ownBlock = some g → u.ownBlock ≠ some g := by
  intro g hv hu
  rcases h.2 with ⟨rfl, _⟩ | ⟨g1, _, cur1, rfl, _, hg1, _⟩
  · simp [Value.ownBlock] at hv
  · rcases k.2 with ⟨rfl, _⟩ | ⟨g2, _, cur2, rfl, _, hg2, _⟩
    · simp [Value.ownBlock] at hu
    · have a1 : g1 = g := by simpa [Value.ownBlock] using hv
      have a2 : g2 = g := by simpa [Value.ownBlock] using hu
      subst a1
      subst a2
      rw [hg1] at hg2
      injection hg2 with hg2
      injection hg2 with _ ht
      exact hne ht
theorem Rows.grown {w w' : World} {m : Nat} {vs : List Value} {ls : List (List UInt8)} (h : Rows w m vs ls) {b2 : Nat} {e2 : TypeId} {u : Value} {n : Nat} {ys : List Value} (k : w.ownsRow b2 e2 1 u n ys) (hne : 5 ≠ e2) (ho : w.grownBy w' u.ownBlock) : Rows w' m vs ls :=
  ⟨h.1, fun j v l h1 h2 => own_grown (h.2 j v l h1 h2) ho (own_types (h.2 j v l h1 h2) k hne)⟩
theorem Rows.snoc {w : World} {m : Nat} {vs : List Value} {ls : List (List UInt8)} (h : Rows w m vs ls) {v : Value} {l : List UInt8} (hb : w.ownsRow m 5 1 v l.length (l.map B)) : Rows w m (vs ++ [v]) (ls ++ [l]) := by
  have hl := h.1
  refine ⟨by simp [hl], fun j u k h1 h2 => ?_⟩
  by_cases hj : j < vs.length
  · rw [List.getElem?_append_left hj] at h1
    rw [List.getElem?_append_left (by omega)] at h2
    exact h.2 j u k h1 h2
  · have hj2 : j < (vs ++ [v]).length := (List.getElem?_eq_some_iff.1 h1).1
    obtain rfl : j = vs.length := by simp at hj2; omega
    rw [List.getElem?_append_right (Nat.le_refl _)] at h1
    rw [hl, List.getElem?_append_right (Nat.le_refl _)] at h2
    simp at h1 h2
    subst h1
    subst h2
    exact hb
theorem append_ownG {P : Program} (w : World) {w0 : World} {T : List Nat} (on : Only T w0 w) (t ty e : TypeId) (i : TypeInfo) (z : Value) (bytes : Nat) (ht : P.underlying t = some (.slice e)) (hi : P.info? e = some i) (hz : i.zero = some z)
    (hsize : i.size = 1) (hby : i.bytes = bytes) (hzs : z.cells.size = 1)
    (v : Value) (n : Nat) (xs : List Value) (hown : w.ownsRow w0.heap.size e 1 v n xs)
    (A : Option Addr) (m c : Nat) (news : List Value) (hr : Sl w A m news) (h1 : ∀ u ∈ news, u.oneCell' = true)
    (h63 : n + m ≤ maxLen) (hbytes : (n + m) * bytes ≤ 140737488355328) :
    ∃ A' c' w', (Builtin.append_ #[t, t] ty #[v, .slice A m c]).run P w = .ok (.slice A' (n + m) c') w' ∧ w'.ownsRow w0.heap.size e 1 (.slice A' (n + m) c') (n + m) (xs ++ news) ∧
      Only T w0 w' ∧ w.grownBy w' v.ownBlock := by
  obtain ⟨v', w', hrun, h2, h3, _⟩ := run_append_sl (P := P) w w0.heap.size t ty e i z bytes ht hi hz hsize hby hzs v n xs hown A m c news hr h1 h63 hbytes on.size
  obtain ⟨A', c', rfl, _, _⟩ := own_slice h2
  have hb : ∀ k, k < w0.heap.size → w'.heap[k]? = w.heap[k]? := fun k hk => h3.block k (Nat.lt_of_lt_of_le hk on.size) (fun e => by have := hown.lt k e.symm; omega)
  exact ⟨A', c', w', hrun, h2, ⟨h3.os.trans on.os, h3.tape.trans on.tape, h3.output.trans on.output, Nat.le_trans on.size h3.size, fun k hk hn => (hb k hk).trans (on.block k hk hn)⟩, h3⟩
theorem madeB_own2 {w w' : World} {l : List UInt8} {v : Value} (h : MadeB w l v w') : ∃ A c, v = .slice A l.length c ∧ w'.ownsRow w.heap.size 5 1 (.slice A l.length c) l.length (l.map B) ∧ Only [] w w' := by
  obtain ⟨A, c, rfl, h, o⟩ := h
  exact ⟨A, c, rfl, h, o⟩
def wantOf (keep : List Int) (i : Nat) (x : Line) : List UInt8 := if (i : Int) ∈ keep then x.now else x.kept
def wants (keep : List Int) (L : List Line) : List (List UInt8) := L.mapIdx (wantOf keep)
theorem wants_take {keep : List Int} {L : List Line} {k : Nat} {x : Line} (h : L[k]? = some x) : (wants keep L).take (k + 1) = (wants keep L).take k ++ [wantOf keep k x] := by
  unfold wants
  have hk := (List.getElem?_eq_some_iff.1 h).1
  rw [List.take_succ_eq_append_getElem (by simpa using hk), List.getElem_mapIdx, (List.getElem?_eq_some_iff.1 h).2]
theorem wants_get {keep : List Int} {L : List Line} {k : Nat} {x : Line} (h : L[k]? = some x) : (wants keep L)[k]? = some (wantOf keep k x) := by
  unfold wants
  rw [List.getElem?_mapIdx, h]
  rfl
theorem cutL_now (keep : List Int) (k : Nat) (x : Line) : (cutL keep k x).now = wantOf keep k x := by
  unfold cutL wantOf
  split
  · rename_i h
    rw [if_pos h.2]
  · rename_i h
    by_cases hk : (k : Int) ∈ keep
    · rw [if_pos hk]
      by_cases he : x.now = x.kept
      · exact he.symm
      · exact absurd ⟨by simpa using he, hk⟩ h
    · rw [if_neg hk]
theorem cutL_kept (keep : List Int) (k : Nat) (x : Line) : (cutL keep k x).kept = (cutL keep k x).now := by
  unfold cutL
  split <;> rfl
theorem cutL_sent (keep : List Int) (k : Nat) (x : Line) : (cutL keep k x).sent = false := by
  unfold cutL
  split <;> rfl
theorem those_none {p : Line → Bool} {L : List Line} (h : ∀ x ∈ L, p x = false) (m : Nat) : those p L m = [] := by
  unfold those
  rw [List.map_eq_nil_iff, List.filter_eq_nil_iff]
  intro j _
  cases hq : L[j]? with
  | none => simp
  | some x => simp [h x (List.mem_of_getElem? hq)]
theorem cut_loose (D : Dev) (keep : List Int) (m : Nat) : those (fun x => x.now != x.kept) (cutD D keep).lines m = [] :=
  those_none (fun x hx => by
    unfold cutD at hx
    obtain ⟨i, hi, rfl⟩ := List.mem_mapIdx.1 hx
    rw [cutL_kept]
    simp) m
theorem cut_sent (D : Dev) (keep : List Int) (m : Nat) : those (fun x => x.sent) (cutD D keep).lines m = [] :=
  those_none (fun x hx => by
    unfold cutD at hx
    obtain ⟨i, hi, rfl⟩ := List.mem_mapIdx.1 hx
    exact cutL_sent _ _ _) m
/-- what is kept so far -/
def pick (keep : List Int) (i : Nat) (a b : Value) : Value := if (i : Int) ∈ keep then a else b
theorem pick_hit {keep : List Int} {j : Nat} {i : Nat} {a b : Value} (hj : j < keep.length) (h : keep[j] = (i : Int)) : pick (keep.take (j + 1)) i a b = a := by
  unfold pick
  rw [if_pos]
  rw [List.take_succ_eq_append_getElem hj, h]
  simp
theorem pick_miss {keep : List Int} {j : Nat} {i : Nat} {a b : Value} (hj : j < keep.length) (h : keep[j] ≠ (i : Int)) : pick (keep.take (j + 1)) i a b = pick (keep.take j) i a b := by
  unfold pick
  have : ((i : Int) ∈ keep.take (j + 1)) ↔ ((i : Int) ∈ keep.take j) := by
    rw [List.take_succ_eq_append_getElem hj, List.mem_append, List.mem_singleton]
    exact ⟨fun h' => h'.elim id (fun e => absurd e.symm h), .inl⟩
  simp only [this]
theorem one_slice (A : Option Addr) (n c : Nat) : ∀ u ∈ [Value.slice A n c], u.oneCell' = true := by
  intro u hu
  rw [List.mem_singleton] at hu
  subst hu
  rfl
set_option maxHeartbeats 4000000 in
theorem walk_NvmCuts (A : Option Addr) (n c : Nat) (xs : List (Deed × Holds)) (kA : Option Addr) (kn kc : Nat) (keep : List Int) (w : World) (h : Deeds w A n xs) (_hc : n ≤ c) (hk : Is w kA kn keep ∧ ∀ i ∈ keep, -9223372036854775808 ≤ i ∧ i ≤ 9223372036854775807) (_hkm : kn ≤ maxLen) :
    Calls Try.prog 6 #[.slice A n c, .slice kA kn kc] w fun e w' => e = .returned (.bool true) ∧ Only [] w w' := by
  have HL := Lib.hid (law3_large A n c xs w h)
  by_cases hlg : isLarge xs = true
  · rw [hlg] at HL
    clear h hk
    go_enter Try.func6, Try.ntmps6
    go_wp2_with fail
    refine (HL.out).mono ?_
    rintro e w' ⟨rfl, rfl⟩
    go_wp2_with fail
    refine (law3_awake _).mono ?_
    rintro e w1 ⟨rfl, o1⟩
    have O1 := Lib.hid o1
    clear o1
    go_wp2
    go_ret
    exact ⟨rfl, O1.out⟩
  have hf : isLarge xs = false := by simpa using hlg
  rw [hf] at HL
  by_cases hkn : 100 < kn
  · have q : decide ((100 : Int) < (kn : Int)) = true := by go_num
    clear h hk hlg hf
    go_enter Try.func6, Try.ntmps6
    go_wp2_with fail
    refine (HL.out).mono ?_
    rintro e w' ⟨rfl, rfl⟩
    go_wp2_with fail
    refine (law3_awake _).mono ?_
    rintro e w1 ⟨rfl, o1⟩
    have O1 := Lib.hid o1
    clear o1
    go_wp2
    go_ret
    exact ⟨rfl, O1.out⟩
  have q : decide ((100 : Int) < (kn : Int)) = false := by go_num
  have hkn2 : kn ≤ 100 := by omega
  obtain ⟨_, hsm⟩ := large_no hf
  have HS := Lib.hid (law3_some A n c xs w h hsm)
  have HKL := Lib.hid (Is.len hk.1)
  have HKB := Lib.hid (fun (hp : 0 < kn) => sl_blocks hk.1 hp)
  have HK := Lib.hid hk.1
  clear h hlg hf hsm hk hkn
  have H8 := Lib.hid (playAll_8 xs)
  generalize playAll (newDev 8) xs = D at *
  obtain ⟨i0, hi, hz0, hz1, hz2⟩ := info_parts Try.bytesInfo
  have HI := Lib.hid hi
  have HZ0 := Lib.hid hz0
  have HZ1 := Lib.hid hz1
  have HZ2 := Lib.hid hz2
  clear hi hz0 hz1 hz2
  go_enter Try.func6, Try.ntmps6
  go_wp2_with fail
  refine (HL.out).mono ?_
  rintro e w' ⟨rfl, rfl⟩
  go_wp2_with fail
  refine (HS.out).mono ?_
  rintro e w1 ⟨g, cb, rfl, d1, o1, f1, f2⟩
  have hg1 := d1.lt1
  have hc1 := d1.lt2
  have D1 := Lib.hid d1
  have O1 := Lib.hid o1
  have K1 := Lib.hid (HK.out.only0 o1)
  clear d1 o1
  go_wp2
  go_loopw [6, 7, 8, 9, 10, 11, 12, 13] (fun v i _ _ _ _ _ _ wr => ∃ (k : Nat) (vs : List Value), k ≤ 8 ∧ i = .int .i64 k ∧ vs.length = k ∧ wr.ownsRow w1.heap.size 30 1 v k vs ∧ Rows wr w1.heap.size vs ((wants keep D.lines).take k) ∧ Only [] w1 wr) (fun _ i _ _ _ _ _ _ _ => 8 - (intOf i).toNat)
  case atStart => exact ⟨0, [], by omega, rfl, rfl, own_nil _ _ _ _, ⟨rfl, by simp⟩, Only.refl _ _⟩
  case round =>
    obtain ⟨k, vs, hk, rfl, hvs, ho, hr, on⟩ := hrel
    by_cases hlt : k < 8
    · have hx := lineOf_get (D := D) (i := k) (by rw [H8.out]; omega)
      generalize lineOf D (k : Int) = x at *
      have HX := Lib.hid hx
      have HVS := Lib.hid hvs
      have HO := Lib.hid ho
      have HR := Lib.hid hr
      have ON := Lib.hid on
      have DR := Lib.hid (D1.out.only0 on)
      clear hx hvs ho hr on
      go_wp2_with fail
      refine (nvm_Load g cb 8 D k x HX.out _ DR.out).mono ?_
      rintro e w4 ⟨v4, rfl, m4⟩
      obtain ⟨A4, c4, rfl, b4, o4⟩ := madeB_own2 m4
      have D4 := Lib.hid (DR.out.only0 o4)
      have O4 := Lib.hid (ON.out.trans0 o4)
      have s4 := ON.out.size
      have B4 := Lib.hid (World.ownsRow.mono b4 s4)
      have OA := Lib.hid o4
      clear m4 b4 o4
      go_wp2_with fail
      refine (nvm_Durable g cb 8 D k x HX.out _ D4.out).mono ?_
      rintro e w5 ⟨v5, rfl, m5⟩
      obtain ⟨A5, c5, rfl, b5, o5⟩ := madeB_own2 m5
      have O5 := Lib.hid (O4.out.trans0 o5)
      have B5 := Lib.hid (own_only B4.out o5 (by simp))
      have s5 := O4.out.size
      have C5 := Lib.hid (World.ownsRow.mono b5 s5)
      have OW := Lib.hid (OA.out.trans0 o5)
      clear m5 b5 o5 OA
      have K5 := Lib.hid (K1.out.only0 O5.out)
      have hlx := (D1.out.ok.get (i := k) (by rw [H8.out]; omega))
      have hxo1 : x.now.length = 64 := by
        obtain ⟨hk2, he⟩ := List.getElem?_eq_some_iff.1 HX.out
        rw [← he]; exact hlx.1
      have hxo2 : x.kept.length = 64 := by
        obtain ⟨hk2, he⟩ := List.getElem?_eq_some_iff.1 HX.out
        rw [← he]; exact hlx.2.1
      have HP0 := Lib.hid (show pick (keep.take 0) k (.slice A4 x.now.length c4) (.slice A5 x.kept.length c5) = .slice A5 x.kept.length c5 by simp [pick])
      have HPN := Lib.hid (show pick (keep.take kn) k (.slice A4 x.now.length c4) (.slice A5 x.kept.length c5) = pick keep k (.slice A4 x.now.length c4) (.slice A5 x.kept.length c5) by rw [List.take_of_length_le (by rw [HKL.out]; exact Nat.le_refl _)])
      clear hlx hxo1 hxo2
      go_wp2
      generalize hva : Value.slice A4 x.now.length c4 = va at *
      generalize hvb : Value.slice A5 x.kept.length c5 = vb at *
      have HVA := Lib.hid hva
      have HVB := Lib.hid hvb
      clear hva hvb
      go_loop [12, 13] (fun y j => ∃ i : Nat, i ≤ kn ∧ j = .int .i64 i ∧ y = pick (keep.take i) k va vb) (fun _ j => kn - (intOf j).toNat)
      case atStart => exact ⟨0, Nat.zero_le _, rfl, HP0.out.symm⟩
      case round =>
        obtain ⟨j, hj, rfl, rfl⟩ := hrel
        by_cases hjt : j < kn
        · have hjl : j < keep.length := by rw [HKL.out]; exact hjt
          obtain ⟨b, off, rfl, hcl⟩ := K5.out.at_ (by omega)
          have hcj := hcl j hjl
          have HH := Lib.hid (fun h => pick_hit (a := va) (b := vb) (i := k) hjl h)
          have HM := Lib.hid (fun h => pick_miss (a := va) (b := vb) (i := k) hjl h)
          clear hcl
          generalize keep[j] = u at *
          by_cases hu : u = (k : Int)
          · have q1 : (u == (k : Int)) = true := by simpa using hu
            have E := Lib.hid (HH.out hu)
            clear hu
            go_wp2
            go_round
            case rel => exact ⟨j + 1, by omega, by go_num, E.out.symm⟩
            case measure => simp [intOf]; omega
          · have q1 : (u == (k : Int)) = false := by simpa using hu
            have E := Lib.hid (HM.out hu)
            clear hu
            go_wp2
            go_round
            case rel => exact ⟨j + 1, by omega, by go_num, E.out.symm⟩
            case measure => simp [intOf]; omega
        · obtain rfl : j = kn := by omega
          have hv6 : w5.ownsRow w1.heap.size 5 1 (pick keep k va vb) (wantOf keep k x).length ((wantOf keep k x).map B) := by
            rw [← HVA.out, ← HVB.out]
            unfold pick wantOf
            split
            · rw [HVA.out]; exact B5.out
            · rw [HVB.out]; exact C5.out
          rw [HPN.out]
          have hr5 := HR.out.only OW.out (by simp)
          have ho5 := own_only HO.out OW.out (by simp)
          have HTK := Lib.hid (wants_take (keep := keep) HX.out)
          obtain ⟨A6, c6, he6, _, _⟩ := own_slice hv6
          rw [he6] at hv6 ⊢
          have al : Only [] w5 (w5.alloc (.cells #[.slice A6 (wantOf keep k x).length c6] 30)) := (Only.refl _ _).alloc _
          obtain ⟨A7, c7, w7, hrun, ho7, on7, hg7⟩ := append_ownG (P := Try.prog) (w0 := w1) (w5.alloc (.cells #[.slice A6 (wantOf keep k x).length c6] 30)) (O5.out.alloc _) 49 49 30 i0 _ 24 Try.underlying49 HI.out HZ0.out HZ1.out HZ2.out rfl _ k vs (ho5.alloc _) (some ⟨w5.heap.size, 0, none⟩) 1 1 [.slice A6 (wantOf keep k x).length c6] (cell_new1 _ _ _) (one_slice _ _ _) (by unfold maxLen; omega) (by omega)
          have hr7 := ((hr5.only al (by simp)).snoc (own_only hv6 al (by simp))).grown (ho5.alloc _) (by decide) hg7
          rw [← HTK.out] at hr7
          have R7 := Lib.hid hr7
          have H7 := Lib.hid ho7
          have N7 := Lib.hid on7
          have V7 := Lib.hid (show (vs ++ [Value.slice A6 (wantOf keep k x).length c6]).length = k + 1 by rw [List.length_append, HVS.out]; rfl)
          clear hr5 ho5 hv6 he6 al ho7 on7 hg7 hr7
          go_wp2_with (at_builtin; refine wpList_append_run _ rfl (.tmp 63) (.tmp 65) 49 rfl _ _ rfl rfl _ _ hrun ?_)
          go_roundw
          case rel => exact ⟨k + 1, _, by omega, by go_num, V7.out, H7.out, R7.out, N7.out⟩
          case measure => simp [intOf]; omega
    · obtain rfl : k = 8 := by omega
      obtain ⟨qb, qc, rfl, hqb, hql⟩ := World.ownsRow.form ho (by omega)
      have HVS := Lib.hid hvs
      have HO := Lib.hid ho
      have hr8 : Rows wr w1.heap.size vs (wants keep D.lines) := by
        have := hr
        rwa [List.take_of_length_le (by unfold wants; rw [List.length_mapIdx, H8.out]; exact Nat.le_refl _)] at this
      have HR := Lib.hid hr8
      have DR := Lib.hid (D1.out.only0 on)
      have KR := Lib.hid (K1.out.only0 on)
      have ON := Lib.hid (O1.out.trans0 on)
      clear hvs ho hr hr8 on
      go_wp2_with fail
      refine (nvm_Cut g cb 8 D kA kn kc keep _ DR.out KR.out (by omega) (fun hp b off s e => by have := HKB.out hp b off s e; omega)).mono ?_
      rintro e w2 ⟨A2, c2, rfl, _, d2, o2⟩
      have hlost := lostTo_length keep D.lines D.lines.length
      rw [H8.out] at hlost ⊢
      generalize (lostTo keep D.lines 8).length = q at *
      have D2 := Lib.hid d2
      have O2 := Lib.hid (ON.out.trans o2 (by intro b hb; simp at hb; rcases hb with rfl | rfl <;> omega))
      have W2 := Lib.hid (own_only HO.out o2 (by intro k hk; simp [Value.ownBlock] at hk; subst hk; simp; omega))
      have R2 := Lib.hid (HR.out.only o2 (by intro b hb; simp at hb; omega))
      clear d2 o2
      have X2 := Lib.hid (fun (i : Nat) (x : Line) (h : D.lines[i]? = some x) => (by unfold cutD; rw [List.getElem?_mapIdx, h]; rfl : (cutD D keep).lines[i]? = some (cutL keep i x)))
      have L2 := Lib.hid (cut_loose D keep (cutD D keep).lines.length)
      have S2 := Lib.hid (cut_sent D keep (cutD D keep).lines.length)
      generalize cutD D keep = E at *
      go_wp2_with fail
      refine (nvm_Loose g cb 8 E _ D2.out).mono ?_
      rintro e w3 ⟨v3, rfl, m3⟩
      rw [L2.out] at m3
      obtain ⟨A3, c3, rfl, _, o3⟩ := madeI_is m3
      have D3 := Lib.hid (D2.out.only0 o3)
      have O3 := Lib.hid (O2.out.trans0 o3)
      have W3 := Lib.hid (own_only W2.out o3 (by simp))
      have R3 := Lib.hid (R2.out.only o3 (by simp))
      clear m3 o3
      go_wp2_with fail
      refine (nvm_Way g cb 8 E _ D3.out).mono ?_
      rintro e w4 ⟨v4, rfl, m4⟩
      rw [S2.out] at m4
      obtain ⟨A4, c4, rfl, _, o4⟩ := madeI_is m4
      have D4 := Lib.hid (D3.out.only0 o4)
      have O4 := Lib.hid (O3.out.trans0 o4)
      have W4 := Lib.hid (own_only W3.out o4 (by simp))
      have R4 := Lib.hid (R3.out.only o4 (by simp))
      have hq : decide ((8 : Int) < (q : Int)) = false := by go_num
      clear m4 o4
      go_wp2
      go_loopw [16, 17, 18, 19, 20] (fun i _ _ _ _ wr => ∃ (k : Nat), k ≤ 8 ∧ i = .int .i64 k ∧ DevAt wr g cb 8 E ∧ wr.ownsRow w1.heap.size 30 1 (.slice (some ⟨qb, 0, none⟩) 8 qc) 8 vs ∧ Rows wr w1.heap.size vs (wants keep D.lines) ∧ Only [] w wr) (fun i _ _ _ _ _ => 8 - (intOf i).toNat)
      case atStart => exact ⟨0, by omega, rfl, D4.out, W4.out, R4.out, O4.out⟩
      case round =>
        obtain ⟨k, hk, rfl, hd, ho, hr, on⟩ := hrel
        by_cases hlt : k < 8
        · have hx := lineOf_get (D := D) (i := k) (by rw [H8.out]; omega)
          generalize lineOf D (k : Int) = x at *
          have hy := X2.out k x hx
          have hw := wants_get (keep := keep) hx
          have hn := cutL_now keep k x
          have hkp := cutL_kept keep k x
          rw [hn] at hkp
          generalize wantOf keep k x = l at *
          generalize cutL keep k x = y at *
          have HY := Lib.hid hy
          have HW := Lib.hid hw
          have HN := Lib.hid hn
          have HKP := Lib.hid hkp
          have HD := Lib.hid hd
          have HO := Lib.hid ho
          have HR := Lib.hid hr
          have ON := Lib.hid on
          clear hx hy hw hn hkp hd ho hr on
          go_wp2_with fail
          refine (nvm_Load g cb 8 E k y HY.out _ HD.out).mono ?_
          rintro e w5 ⟨v5, rfl, m5⟩
          obtain ⟨A5, c5, rfl, b5, _, o5⟩ := madeB_bs m5
          rw [HN.out] at b5
          rw [HN.out]
          have D5 := Lib.hid (HD.out.only0 o5)
          have O5 := Lib.hid (ON.out.trans0 o5)
          have W5 := Lib.hid (own_only HO.out o5 (by simp))
          have R5 := Lib.hid (HR.out.only o5 (by simp))
          have B5 := Lib.hid b5
          clear m5 b5 o5
          go_wp2_with fail
          refine (nvm_Durable g cb 8 E k y HY.out _ D5.out).mono ?_
          rintro e w6 ⟨v6, rfl, m6⟩
          obtain ⟨A6, c6, rfl, b6, _, o6⟩ := madeB_bs m6
          rw [HKP.out] at b6
          rw [HKP.out]
          have D6 := Lib.hid (D5.out.only0 o6)
          have O6 := Lib.hid (O5.out.trans0 o6)
          have ho6 := own_only W5.out o6 (by simp)
          have hr6 := R5.out.only o6 (by simp)
          have B6 := Lib.hid (Sl.only0 B5.out o6)
          have C6 := Lib.hid b6
          have hkv : k < vs.length := by rw [HVS.out]; exact hlt
          have hvk : vs[k]? = some vs[k] := List.getElem?_eq_getElem hkv
          have hce := World.ownsRow.cellAt ho6 k hlt
          have hown := hr6.2 k _ l hvk HW.out
          rw [hvk] at hce
          obtain ⟨A9, c9, he9, _, _⟩ := own_slice hown
          rw [he9] at hce hown
          have B9 := Lib.hid (bs_own hown)
          have W6 := Lib.hid ho6
          have R6 := Lib.hid hr6
          clear m6 b6 o6 ho6 hr6 hvk hown he9
          go_wp2_with fail
          refine (law0_SameBytes _ _ _ _ _ _ _ _ _ B6.out B9.out).mono ?_
          rintro e w' ⟨rfl, rfl⟩
          rw [beq_self_eq_true]
          go_wp2_with fail
          refine (law0_SameBytes _ _ _ _ _ _ _ _ _ C6.out B9.out).mono ?_
          rintro e w' ⟨rfl, rfl⟩
          rw [beq_self_eq_true]
          go_wp2
          go_roundw
          case rel => exact ⟨k + 1, by omega, by go_num, D6.out, W6.out, R6.out, O6.out⟩
          case measure => simp [intOf]; omega
        · have ON := Lib.hid on
          clear hd ho hr on
          go_wp2_with fail
          refine (law3_awake _).mono ?_
          rintro e wb ⟨rfl, ob⟩
          have Ob := Lib.hid (ON.out.trans0 ob)
          clear ob
          go_wp2
          go_ret
          exact ⟨rfl, Ob.out⟩
end Go.Proofs.Ytfafpggppbolkaa
