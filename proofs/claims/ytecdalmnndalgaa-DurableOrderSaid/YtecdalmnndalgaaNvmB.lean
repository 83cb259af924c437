/- The contracts of package nvm, first part: the bounds, the bytes of a line. -/
import Derived.Test.YtecdalmnndalgaaNvmA
import Derived.Test.YtecdalmnndalgaaNvmP
import Derived.Test.YtecdalmnndalgaaCode
namespace Go.Proofs.Ytecdalmnndalgaa
open Go.RowKit Go.Proofs.FuMem Go.Proofs.FuNvm Go.Proofs.FuCode
set_option maxRecDepth 100000

theorem byteSizeN : (Try.prog.info? 5).map (·.size) = some 1 := by kernel_rfl
/-- is there no such line, or not so many of its bytes? -/
def noPlace (len : Nat) (line at_ n : Int) : Prop := line < 0 ∨ (len : Int) ≤ line ∨ at_ < 0 ∨ 64 - n < at_
abbrev DevAt (w : World) (g cb cap : Nat) (D : Dev) : Prop := IsDev 87 94 w g cb cap D
theorem nvm_there_no (g cb cap : Nat) (D : Dev) (line at_ n : Int) (w : World) (hd : DevAt w g cb cap D) (hn : 0 ≤ n ∧ n ≤ 9223372036854775807) (h : noPlace D.lines.length line at_ n) :
    Calls Try.prog 41 #[.pointer (some ⟨g, 0, none⟩), .int .i64 line, .int .i64 at_, .int .i64 n] w fun e w' => e = .returned (.int .i64 2) ∧ w = w' := by
  have hc : w.cell? ⟨g, 0, none⟩ = some (.slice (some ⟨cb, 0, none⟩) D.lines.length cap) := hd.cell 0
  have hf := hd.few
  clear hd
  unfold noPlace at h
  generalize D.lines.length = m at *
  by_cases h1 : line < 0
  · clear h
    go_enter Try.func41, Try.ntmps41
    go_wp2
    go_ret
    exact ⟨rfl, rfl⟩
  by_cases h2 : (m : Int) ≤ line
  · clear h
    go_enter Try.func41, Try.ntmps41
    go_wp2
    go_ret
    exact ⟨rfl, rfl⟩
  by_cases h3 : at_ < 0
  · clear h
    go_enter Try.func41, Try.ntmps41
    go_wp2
    go_ret
    exact ⟨rfl, rfl⟩
  have h4 : 64 - n < at_ := by omega
  clear h
  go_enter Try.func41, Try.ntmps41
  go_wp2
  go_ret
  exact ⟨rfl, rfl⟩
theorem nvm_there_yes (g cb cap : Nat) (D : Dev) (line at_ n : Int) (w : World) (hd : DevAt w g cb cap D) (hn : 0 ≤ n ∧ n ≤ 9223372036854775807) (h : ¬ noPlace D.lines.length line at_ n) :
    Calls Try.prog 41 #[.pointer (some ⟨g, 0, none⟩), .int .i64 line, .int .i64 at_, .int .i64 n] w fun e w' => e = .returned (.int .i64 0) ∧ w = w' := by
  have hc : w.cell? ⟨g, 0, none⟩ = some (.slice (some ⟨cb, 0, none⟩) D.lines.length cap) := hd.cell 0
  have hf := hd.few
  clear hd
  unfold noPlace at h
  generalize D.lines.length = m at *
  have h1 : 0 ≤ line := by omega
  have h2 : line < m := by omega
  have h3 : 0 ≤ at_ := by omega
  have h4 : at_ ≤ 64 - n := by omega
  clear h
  go_enter Try.func41, Try.ntmps41
  go_wp2
  go_ret
  exact ⟨rfl, rfl⟩
theorem nvm_Lines (g cb cap : Nat) (D : Dev) (w : World) (hd : DevAt w g cb cap D) :
    Calls Try.prog 78 #[.pointer (some ⟨g, 0, none⟩)] w fun e w' => e = .returned (.int .i64 D.lines.length) ∧ w = w' := by
  have hc : w.cell? ⟨g, 0, none⟩ = some (.slice (some ⟨cb, 0, none⟩) D.lines.length cap) := hd.cell 0
  clear hd
  generalize D.lines.length = m at *
  go_enter Try.func78, Try.ntmps78
  go_wp2
  go_ret
  exact ⟨rfl, rfl⟩
theorem nvm_Load_no (g cb cap : Nat) (D : Dev) (line : Int) (w : World) (hd : DevAt w g cb cap D) (h : noPlace D.lines.length line 0 0) :
    Calls Try.prog 21 #[.pointer (some ⟨g, 0, none⟩), .int .i64 line] w fun e w' => e = .returned (.tuple #[.slice none 0 0, .int .i64 2]) ∧ w = w' := by
  have HT := Lib.hid (nvm_there_no g cb cap D line 0 0 w hd (by omega) h)
  clear hd h
  go_enter Try.func21, Try.ntmps21
  go_wp2_with fail
  refine (HT.out).mono ?_
  rintro e w' ⟨rfl, rfl⟩
  go_wp2
  go_ret2
  exact ⟨rfl, rfl⟩
theorem nvm_Load (g cb cap : Nat) (D : Dev) (i : Nat) (x : Line) (hx : D.lines[i]? = some x) (w : World) (hd : DevAt w g cb cap D) :
    Calls Try.prog 21 #[.pointer (some ⟨g, 0, none⟩), .int .i64 i] w fun e w' => ∃ v, e = .returned (.tuple #[v, .int .i64 0]) ∧ MadeB w x.now v w' := by
  obtain ⟨hi, rfl⟩ := List.getElem?_eq_some_iff.1 hx
  have hc : w.cell? ⟨g, 0, none⟩ = some (.slice (some ⟨cb, 0, none⟩) D.lines.length cap) := hd.cell 0
  have hf := hd.few
  have HT := Lib.hid (nvm_there_yes g cb cap D i 0 0 w hd (by omega) (by unfold noPlace; omega))
  have hcl := clone_bytes _ 64 64 _ w (hd.now hi) (by omega)
  have HC := Lib.hid hcl
  clear hd hcl hx
  generalize (D.lines[i]).now = l at *
  generalize D.lines.length = m at *
  go_enter Try.func21, Try.ntmps21
  go_wp2_with fail
  refine (HT.out).mono ?_
  rintro e w' ⟨rfl, rfl⟩
  go_wp2_with fail
  refine (HC.out).mono ?_
  rintro e w1 ⟨_, rfl, A1, c1, rfl, m1, o1⟩
  have M1 := Lib.hid m1
  have O1 := Lib.hid o1
  clear m1 o1
  go_wp2
  go_ret2
  exact ⟨.slice A1 l.length c1, rfl, A1, c1, rfl, M1.out, O1.out⟩
theorem nvm_Durable_no (g cb cap : Nat) (D : Dev) (line : Int) (w : World) (hd : DevAt w g cb cap D) (h : noPlace D.lines.length line 0 0) :
    Calls Try.prog 22 #[.pointer (some ⟨g, 0, none⟩), .int .i64 line] w fun e w' => e = .returned (.tuple #[.slice none 0 0, .int .i64 2]) ∧ w = w' := by
  have HT := Lib.hid (nvm_there_no g cb cap D line 0 0 w hd (by omega) h)
  clear hd h
  go_enter Try.func22, Try.ntmps22
  go_wp2_with fail
  refine (HT.out).mono ?_
  rintro e w' ⟨rfl, rfl⟩
  go_wp2
  go_ret2
  exact ⟨rfl, rfl⟩
theorem nvm_Durable (g cb cap : Nat) (D : Dev) (i : Nat) (x : Line) (hx : D.lines[i]? = some x) (w : World) (hd : DevAt w g cb cap D) :
    Calls Try.prog 22 #[.pointer (some ⟨g, 0, none⟩), .int .i64 i] w fun e w' => ∃ v, e = .returned (.tuple #[v, .int .i64 0]) ∧ MadeB w x.kept v w' := by
  obtain ⟨hi, rfl⟩ := List.getElem?_eq_some_iff.1 hx
  have hc : w.cell? ⟨g, 0, none⟩ = some (.slice (some ⟨cb, 0, none⟩) D.lines.length cap) := hd.cell 0
  have hf := hd.few
  have HT := Lib.hid (nvm_there_yes g cb cap D i 0 0 w hd (by omega) (by unfold noPlace; omega))
  have hcl := clone_bytes _ 64 64 _ w (hd.kept hi) (by omega)
  have HC := Lib.hid hcl
  clear hd hcl hx
  generalize (D.lines[i]).kept = l at *
  generalize D.lines.length = m at *
  go_enter Try.func22, Try.ntmps22
  go_wp2_with fail
  refine (HT.out).mono ?_
  rintro e w' ⟨rfl, rfl⟩
  go_wp2_with fail
  refine (HC.out).mono ?_
  rintro e w1 ⟨_, rfl, A1, c1, rfl, m1, o1⟩
  have M1 := Lib.hid m1
  have O1 := Lib.hid o1
  clear m1 o1
  go_wp2
  go_ret2
  exact ⟨.slice A1 l.length c1, rfl, A1, c1, rfl, M1.out, O1.out⟩
theorem nvm_Store_no (g cb cap : Nat) (D : Dev) (line at_ : Int) (A : Option Addr) (n c : Nat) (w : World) (hd : DevAt w g cb cap D) (hn : n ≤ maxLen) (h : noPlace D.lines.length line at_ n) :
    Calls Try.prog 20 #[.pointer (some ⟨g, 0, none⟩), .int .i64 line, .int .i64 at_, .slice A n c] w fun e w' => e = .returned (.int .i64 2) ∧ w = w' := by
  unfold maxLen at hn
  have HT := Lib.hid (nvm_there_no g cb cap D line at_ n w hd (by omega) h)
  clear hd h
  go_enter Try.func20, Try.ntmps20
  go_wp2_with fail
  refine (HT.out).mono ?_
  rintro e w' ⟨rfl, rfl⟩
  go_wp2
  go_ret
  exact ⟨rfl, rfl⟩
/-- the device behind a store -/
def storeD (D : Dev) (i : Nat) (x : Line) (a : Nat) (l : List UInt8) : Dev := { D with lines := D.lines.set i { x with now := over x.now a l }, stores := wrap64 (D.stores + 1) }
theorem storeD_nil (D : Dev) (i a : Nat) (hi : i < D.lines.length) : (storeD D i (D.lines[i]) a []).lines = D.lines := by
  unfold storeD
  rw [over_nil]
  exact List.set_getElem_self hi
theorem over_cells (x : Line) (h : x.Ok) (a : Nat) (l : List UInt8) (hl : a + l.length ≤ 64) : cellsOf { x with now := over x.now a l } = (cellsOf x).take a ++ l.map B ++ (cellsOf x).drop (a + (l.map B).length) := by
  obtain ⟨h1, h2, h3⟩ := h
  unfold cellsOf over
  simp only [List.map_append, List.length_map, List.append_assoc, List.map_take, List.map_drop]
  rw [List.take_append_of_le_length (by simp; omega), List.drop_append_of_le_length (by simp; omega)]
theorem over_ok {x : Line} (h : x.Ok) {a : Nat} {l : List UInt8} (hl : a + l.length ≤ 64) : ({ x with now := over x.now a l } : Line).Ok :=
  ⟨by rw [over_length _ _ _ (by rw [h.1]; exact hl), h.1], h.2.1, h.2.2⟩
/-- the counter of stores has turned -/
theorem IsDev.count {tD tC : TypeId} {w : World} {g cb cap : Nat} {D D' : Dev} (h : IsDev tD tC w g cb cap D) (k : Nat) (z : Int) (hl : D'.lines = D.lines) (he : (headOf cb cap D).setIfInBounds k (.int .i64 z) = headOf cb cap D') :
    IsDev tD tC (w.setCell ⟨g, k, none⟩ (.int .i64 z)) g cb cap D' ∧ Only [g] w (w.setCell ⟨g, k, none⟩ (.int .i64 z)) := by
  have on : Only [g] w (w.setCell ⟨g, k, none⟩ (.int .i64 z)) := (Only.refl [g] w).setCell (p := ⟨g, k, none⟩) (.inl (by simp)) _
  obtain ⟨cs, hb, hp⟩ := h.body
  refine ⟨⟨?_, ⟨cs, hb.only on (by simpa using h.ne.symm), by rw [hl]; exact hp⟩, h.ne, by rw [hl]; exact h.ok, by rw [hl]; exact h.few, by rw [hl]; exact h.cap_le⟩, on⟩
  rw [← he]
  exact h.head.set k _
set_option maxHeartbeats 400000 in
theorem nvm_Store (g cb cap : Nat) (D : Dev) (i a : Nat) (x : Line) (hx : D.lines[i]? = some x) (A : Option Addr) (n c : Nat) (l : List UInt8) (w : World) (hd : DevAt w g cb cap D) (hl : Bs w A n l) (ha : a + n ≤ 64) :
    Calls Try.prog 20 #[.pointer (some ⟨g, 0, none⟩), .int .i64 i, .int .i64 a, .slice A n c] w fun e w' => e = .returned (.int .i64 0) ∧ DevAt w' g cb cap (storeD D i x a l) ∧ Only [g, cb] w w' := by
  obtain ⟨hi, rfl⟩ := List.getElem?_eq_some_iff.1 hx
  have hc : w.cell? ⟨g, 0, none⟩ = some (.slice (some ⟨cb, 0, none⟩) D.lines.length cap) := hd.cell 0
  have hf := hd.few
  have HT := Lib.hid (nvm_there_yes g cb cap D i a n w hd (by omega) (by unfold noPlace; omega))
  have HD := Lib.hid hd
  have HL := Lib.hid hl
  have HN := Lib.hid hl.len
  obtain ⟨cs, hb, hp⟩ := hd.body
  have hs := body_size hd.ok hp
  have hi2 : (i + 1) * 193 ≤ D.lines.length * 193 := Nat.mul_le_mul_right _ hi
  have HB := Lib.hid hb
  have HP := Lib.hid hp
  have HS := Lib.hid hs
  have hfit : i * 193 + a + (64 - a) ≤ cs.size := by omega
  clear hd hl hb hp hs hx hi2
  obtain ⟨i0, hi0, hz0, hz1, hz2⟩ := info_parts Try.byteInfo
  have hsd : storeD D i (D.lines[i]) a l = storeD D i (D.lines[i]) a l := rfl
  by_cases ha64 : a = 64
  · subst ha64
    have hn0 : n = 0 := by omega
    have hl0 : l = [] := List.eq_nil_of_length_eq_zero (by rw [HN.out]; exact hn0)
    have hsl := fun w => run_sliceAt_end (P := Try.prog) Try.underlying92 i0 hi0 cb (i * 193) w
    have hx0 : 0 + 0 ≤ cs.size := by omega
    have H0 := Lib.hid hn0
    have HL0 := Lib.hid hl0
    have hB := HB.out
    have hL := HL.out
    have hc1 := HD.out.cell 1
    have hf1 := HD.out.frozen1 1
    have hcnt := IsDev.count (D' := storeD D i (D.lines[i]) 64 l) HD.out 1 (wrap64 (D.stores + 1)) (by
      rw [HL0.out]
      exact storeD_nil D i 64 hi) (by
      unfold storeD headOf
      simp)
    have HCN := Lib.hid hcnt
    clear hn0 hl0 hsd hi0 hz0 hz1 hz2 hcnt
    go_enter Try.func20, Try.ntmps20
    go_wp2_with fail
    refine (HT.out).mono ?_
    rintro e w' ⟨rfl, rfl⟩
    go_wp2_with ((with_reducible show wpList _ _ _ (Oper.mk (some 29) _ _ _ _ _ :: _) _ _); refine wpList_copy_nothing rfl (.tmp 27) (.tmp 28) 48 48 rfl 5 Try.underlying48 byteSizeN _ _ 0 0 n c rfl rfl (by rw [H0.out]; rfl) ?_)
    refine (int64_Add g 1 D.stores w hc1 hf1).mono ?_
    rintro e w3 ⟨rfl, rfl⟩
    go_wp2
    go_ret
    exact ⟨rfl, HCN.out.1, HCN.out.2.mono (by simp)⟩
  · have ha1 : a < 64 := by omega
    have hsl := fun w => run_sliceAt_low (P := Try.prog) Try.underlying92 i0 hi0 hz1 cb (i * 193) a ha1 w
    have hsp : FuMem.splice cs (i * 193 + a) ((l.map B).take (64 - a)) = FuMem.splice cs (i * 193 + a) (l.map B) := by
      rw [List.take_of_length_le (by rw [List.length_map, HN.out]; omega)]
    have H1 := Lib.hid hsp
    have hB := HB.out
    have hL := HL.out
    clear ha64 hi0 hz0 hz1 hz2 hsd hsp
    go_enter Try.func20, Try.ntmps20
    go_wp2_with fail
    refine (HT.out).mono ?_
    rintro e w' ⟨rfl, rfl⟩
    go_wp2_with ((with_reducible show wpList _ _ _ (Oper.mk (some 29) _ _ _ _ _ :: _) _ _); refine wpList_copy_blk rfl (.tmp 27) (.tmp 28) 48 48 rfl 5 Try.underlying48 byteSizeN cb (i * 193 + a) (64 - a) (64 - a) A n c rfl rfl _ cs hB hfit (l.map B) hL one_B ?_; intro w2 hb2 ho2 hs2; rw [H1.out] at hb2)
    have hd2 : DevAt w2 g cb cap { D with lines := D.lines.set i { D.lines[i] with now := over (D.lines[i]).now a l } } :=
      HD.out.write hi (o := a) (vs := l.map B) (by rw [List.length_map, HN.out]; omega) (over_cells _ (HD.out.ok.get hi) a l (by rw [HN.out]; exact ha)) (over_ok (HD.out.ok.get hi) (by rw [HN.out]; exact ha)) cs HP.out hb2 ho2
    have hc1 := hd2.cell 1
    have hf1 := hd2.frozen1 1
    have hcnt := IsDev.count (D' := storeD D i (D.lines[i]) a l) hd2 1 (wrap64 (D.stores + 1)) rfl (by unfold storeD headOf; simp)
    have HCN := Lib.hid hcnt
    have HO2 := Lib.hid ho2
    clear hcnt hd2 hb2 ho2
    refine (int64_Add g 1 D.stores w2 hc1 hf1).mono ?_
    rintro e w3 ⟨rfl, rfl⟩
    go_wp2
    go_ret
    exact ⟨rfl, HCN.out.1, (HO2.out.mono (by simp)).trans HCN.out.2 (by simp)⟩
end Go.Proofs.Ytecdalmnndalgaa
