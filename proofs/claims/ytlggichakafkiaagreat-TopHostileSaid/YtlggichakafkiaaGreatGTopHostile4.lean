/- A link laid among links at a place: slices.Insert, ahead of the last, into a new row. -/
import Derived.Deep.RegionHeld3
import Derived.Test.YtlggichakafkiaaGreatProg
import Derived.WalkSpells
import Derived.WalkLawsBesides
import Derived.Laws.LoneSync
import Derived.Lib.SliceRun
import Derived.Lib.Hide
import Derived.Deep.MidRow
import Derived.BigQuiet
import Derived.Test.YtlggichakafkiaaGreatGTopHostile1
import Derived.Test.YtlggichakafkiaaGreatGTopHostile2
import Derived.Test.YtlggichakafkiaaGreatGTopHostile3
set_option linter.unusedSimpArgs false
set_option linter.unusedVariables false
namespace Go.Proofs.YtlggichakafkiaaGreat
open Go.BigFrame Go.RowKit Go.Proofs.FuMem Go.Proofs.FuTop
set_option maxRecDepth 100000
theorem zeroCells_size (n : Nat) : (Builtin.zeroCells (linkC noLink).toArray n).size = n * 5 := by
 unfold Builtin.zeroCells
 simp [linkC]
set_option maxHeartbeats 2000000 in
theorem link_insert_grow (b : Nat) (L : List Link) (x : Link) (i c vb : Nat) (w : World) (h : RowS 70 5 w (.slice (some ⟨b, 0, none⟩) L.length c) (L.map linkC)) (hx : Blk w vb 70 (linkC x).toArray) (hi : i < L.length) (hroom : c < L.length + 1) (hLn : L.length ≤ 100000) :
  Calls Tryz.prog 298 #[.slice (some ⟨b, 0, none⟩) L.length c, .int .i64 i, .slice (some ⟨vb, 0, none⟩) 1 1] w fun e w' => ∃ c, e = .returned (.slice (some ⟨w.heap.size, 0, none⟩) (L.length + 1) c) ∧ RowS 70 5 w' (.slice (some ⟨w.heap.size, 0, none⟩) (L.length + 1) c) ((L.take i ++ x :: L.drop i).map linkC) ∧ Only [] w w' := by
 obtain ⟨ti, z, hti, hz, hs, hzs, hb⟩ := linkInfo
 have hz5 : (Tryz.prog.info? 70).map (·.size) = some 5 := by rw [hti]; simp [hs]
 obtain ⟨n, hn⟩ : ∃ n, n = L.length := ⟨_, rfl⟩
 obtain ⟨F, hF⟩ : ∃ F, F = (L.map linkC).flatten := ⟨_, rfl⟩
 have hFl : F.length = n * 5 := by rw [hF, flatten_len h.len, List.length_map, hn]
 rcases h.row.2 with ⟨hv, h0⟩ | ⟨g, cap, cur, hv, _, hg, hcc, hcm, hcs, htk⟩
 ·rw [List.length_map] at h0; omega
 obtain ⟨rfl, rfl⟩ : b = g ∧ c = cap := by
  injection hv with h1 h2 h3
  injection h1 with h1
  injection h1 with h1
  exact ⟨h1, h3⟩
 rw [List.length_map, ← hn] at hcc
 rw [List.length_map, ← hn, ← hF] at htk
 rw [← hn] at hi hroom hLn ⊢
 have hB : Blk w b 70 cur := hg
 have hkk : (n : Int) + 1 - (i : Int) = ((n + 1 - i : Nat) : Int) := by omega
 have hik : i + (n + 1 - i) = n + 1 := by omega
 have hi5 : i * 5 ≤ n * 5 := by omega
 have hold : (Builtin.firstCells ti.size i (.slice (some ⟨b, 0, none⟩) i c)).run Tryz.prog w.drew = .ok (F.take (i * 5)).toArray w.drew := by
  rw [hs]
  exact run_firstCells_some w.drew 5 i ⟨b, 0, none⟩ i c (F.take (i * 5)) (by rw [List.length_take]; omega) (fun j v hj => by
   rw [Addr.add_lit, Nat.zero_add]
   have hb' : Blk w.drew b 70 cur := hB
   rw [hb'.cell]
   rw [List.getElem?_take, ← htk] at hj
   split at hj
   ·rw [List.getElem?_take] at hj
    split at hj
    ·rw [← Array.getElem?_toList]; exact hj
    ·cases hj
   ·cases hj)
 have hrz : ∀ ty, ∃ G, (Builtin.append_ #[216, 3] ty #[.slice (some ⟨b, 0, none⟩) i c, .int .i64 ((n : Int) + 1 - (i : Int))]).run Tryz.prog w =
   .ok (.slice (some ⟨w.heap.size, 0, none⟩) (n + 1) G) (w.drew.alloc (.cells ((F.take (i * 5)).toArray ++ Builtin.zeroCells (linkC noLink).toArray (n + 1 - i) ++ Builtin.zeroCells (linkC noLink).toArray (G - (n + 1))) 70)) ∧ n + 1 ≤ G ∧ G ≤ maxLen := fun ty => by
  have h := Lib.run_append_grow_zeros w 216 3 ty 70 ti z .i64 .i64 Tryz.underlying216 Tryz.underlying3 hti hz (some ⟨b, 0, none⟩) i c (F.take (i * 5)) hold (n + 1 - i) (by omega) (by omega) (by omega) (by omega) (by
   calc (n + 1 - i) * ti.bytes ≤ 100001 * 64 := Nat.mul_le_mul (by omega) hb
    _ ≤ _ := by decide) (by
   rw [hik]
   refine growslice_fits hroom ?_
   calc (n + 1) * ti.bytes ≤ 100001 * 64 := Nat.mul_le_mul (by omega) hb
    _ ≤ _ := by decide)
  rw [hik, hzs] at h
  rw [hkk]
  exact ⟨_, h, grownCap_ge w _ _ _, grownCap_le_maxLen w _ _ _ (by unfold maxLen; omega)⟩
 obtain ⟨G, hra, hG1, hG2⟩ := hrz 216
 obtain ⟨ROW, hROW⟩ : ∃ ROW : Array Value, ROW = (F.take (i * 5)).toArray ++ Builtin.zeroCells (linkC noLink).toArray (n + 1 - i) ++ Builtin.zeroCells (linkC noLink).toArray (G - (n + 1)) := ⟨_, rfl⟩
 rw [← hROW] at hra
 have hRs : ROW.size = G * 5 := by
  rw [hROW, Array.size_append, Array.size_append, zeroCells_size, zeroCells_size, List.size_toArray, List.length_take]
  omega
 have hRt : ROW.toList.take (i * 5) = F.take (i * 5) := by
  rw [hROW, Array.toList_append, Array.toList_append, List.toList_toArray, List.append_assoc]
  exact take_at (by rw [List.length_take]; omega)
 have B1 := hq9 (Blk.new w.drew 70 ROW)
 have O1 := hq9 ((((Only.refl [] w).drew).alloc (.cells ROW 70)))
 obtain ⟨w1, hw1⟩ : ∃ w1, w1 = w.drew.alloc (.cells ROW 70) := ⟨_, rfl⟩
 rw [← hw1] at hra B1 O1
 have hbw := hB.lt
 have hvw := hx.lt
 have S9 := run_slice_to (P := Tryz.prog) Tryz.underlying216 hti (some ⟨b, 0, none⟩) n c i (by omega)
 have S12 := run_slice_from (P := Tryz.prog) Tryz.underlying216 hti b 0 n c i (by omega) (by omega)
 have S10 := run_slice_from (P := Tryz.prog) Tryz.underlying216 hti w.heap.size 0 (n + 1) G i (by omega) (by omega)
 have S11 := run_slice_from (P := Tryz.prog) Tryz.underlying216 hti w.heap.size 0 (n + 1) G (i + 1) (by omega) (by omega)
 rw [hs, Nat.zero_add] at S12 S10 S11
 rw [show ((i + 1 : Nat) : Int) = (i : Int) + 1 by omega] at S11
 obtain ⟨H, hH⟩ : ∃ H, H = w.heap.size := ⟨_, rfl⟩
 obtain ⟨o1, ho1⟩ : ∃ o, o = (i + 1) * 5 := ⟨_, rfl⟩
 obtain ⟨l1, hl1⟩ : ∃ o, o = n + 1 - (i + 1) := ⟨_, rfl⟩
 obtain ⟨c1, hc1⟩ : ∃ o, o = G - (i + 1) := ⟨_, rfl⟩
 obtain ⟨o0, ho0⟩ : ∃ o, o = i * 5 := ⟨_, rfl⟩
 obtain ⟨l0, hl0⟩ : ∃ o, o = n + 1 - i := ⟨_, rfl⟩
 obtain ⟨c0, hc0⟩ : ∃ o, o = G - i := ⟨_, rfl⟩
 obtain ⟨l2, hl2⟩ : ∃ o, o = n - i := ⟨_, rfl⟩
 obtain ⟨c2, hc2⟩ : ∃ o, o = c - i := ⟨_, rfl⟩
 obtain ⟨n1, hn1⟩ : ∃ o, o = n + 1 := ⟨_, rfl⟩
 rw [← hH, ← ho0, ← hl0, ← hc0, ← hn1] at S10
 rw [← hH, ← ho1, ← hl1, ← hc1, ← hn1] at S11
 rw [← ho0, ← hl2, ← hc2] at S12
 rw [← hH, ← hn1] at hra ⊢
 have B1' := B1.out
 rw [show w.drew.heap.size = H by rw [hH]; simp] at B1'
 have hwr : IntKind.i64.wrap ((i : Int) + 1) = (i : Int) + 1 := by rw [IntKind.wrap_i64]; omega
 have q1 : ((i : Int) == (n : Int)) = false := by go_num
 have q2 : decide ((n : Int) + 1 > (c : Int)) = true := by go_num
 have q3 : (c : Int) < (n : Int) + 1 := by omega
 have q4 : ¬ ((i : Int) = (n : Int)) := by omega
 have q5 : IntKind.i64.wrap ((n : Int) + 1 - (i : Int)) = (n : Int) + 1 - (i : Int) := by rw [IntKind.wrap_i64]; omega
 have hFd : (F.drop o0).length = (n - i) * 5 := by rw [List.length_drop, hFl, ho0, ← Nat.sub_mul]
 have X1 := hq9 (hx.only O1.out (by simp))
 have HR := hq9 h.row
 have hR1 : Blk w1 b 70 cur := hB.only O1.out (by simp)
 have hbH : b ≠ H := by omega
 have hr2 : (Builtin.copy_ #[216, 216] 3 #[.slice (some ⟨H, o0, none⟩) l0 c0, .slice (some ⟨vb, 0, none⟩) 1 1]).run Tryz.prog w1 = .ok (goInt ((1 : Nat) : Int)) (w1.setRow H (FuMem.splice ROW o0 (linkC x))) :=
  run_copy_k w1 _ _ _ 70 5 H o0 l0 c0 ⟨vb, 0, none⟩ 1 1 _ _ (linkC x) Tryz.underlying216 hz5 B1' 1 (by show 1 = min 1 l0; omega) rfl (fun j v hj => by
   rw [Addr.add_lit, X1.out.cell, Nat.zero_add]
   simpa using hj) (by
   show _ + 5 ≤ _
   omega) (linkC_one x)
 have O2 := hq9 ((Only.refl [H] w1).setRow (g := H) (.inl (by simp)) (FuMem.splice ROW o0 (linkC x)))
 have B2 := hq9 (B1'.row (FuMem.splice ROW o0 (linkC x)))
 obtain ⟨w2, hw2⟩ : ∃ w2, w2 = w1.setRow H (FuMem.splice ROW o0 (linkC x)) := ⟨_, rfl⟩
 rw [← hw2] at hr2 O2 B2
 have R2 := hR1.only O2.out (by simpa using hbH)
 have hz2 : (FuMem.splice ROW o0 (linkC x)).size = G * 5 := by rw [splice_size _ _ _ (by show _ + 5 ≤ _; omega), hRs]
 have HC := hq9 (show ∀ wd, Blk wd b 70 cur → Blk wd H 70 (FuMem.splice ROW o0 (linkC x)) → ∀ ty, (Builtin.copy_ #[216, 216] ty #[.slice (some ⟨H, o1, none⟩) l1 c1, .slice (some ⟨b, o0, none⟩) l2 c2]).run Tryz.prog wd = .ok (goInt ((n - i : Nat) : Int)) (wd.setRow H (FuMem.splice (FuMem.splice ROW o0 (linkC x)) o1 (F.drop o0))) from fun wd hb hN ty =>
  run_copy_k wd _ _ ty 70 5 H o1 l1 c1 ⟨b, o0, none⟩ l2 c2 _ _ (F.drop o0) Tryz.underlying216 hz5 hN (n - i) (by show n - i = min l2 l1; omega) hFd (fun j v hj => by
   rw [Addr.add_lit, hb.cell]
   rw [List.getElem?_drop, ← htk, List.getElem?_take] at hj
   split at hj
   ·rw [← Array.getElem?_toList]; exact hj
   ·cases hj) (by rw [hFd, hz2, ho1]; omega) (fun v hv => by
   have := List.mem_of_mem_drop hv
   rw [hF] at this
   obtain ⟨y, hy, hvy⟩ := List.mem_flatten.1 this
   obtain ⟨l, _, rfl⟩ := List.mem_map.1 hy
   exact linkC_one l v hvy))
 have HR2 := hq9 R2
 have HA := hq9 (And.intro hRs (And.intro ho0 (And.intro ho1 (And.intro hn1 (And.intro hn (And.intro hG2 (And.intro hF (And.intro hFl (And.intro hRt (And.intro hH (And.intro hFd (And.intro hz2 hG1))))))))))))
 clear h hx hti hz hs hzs hb hF hFl hcc hcm hcs hv hg htk hB hz5 ho0 ho1 hl0 hl1 hc0 hc1 hl2 hn1 hn hFd hrz hold hROW hRs hRt hw1 hw2 B1' hR1 R2 hbH hz2 hH hc2 hkk hik hi5
 go_enter Tryz.func298, Tryz.ntmps298
 go_wp2_with (first
  | (at_builtin; refine wpList_append_run2 rfl (.tmp 34) (.tmp 39) 216 3 rfl _ _ rfl rfl _ _ hra ?_)
  | (at_builtin; refine wpList_copy_run rfl (.tmp 43) (.tmp 44) 216 216 rfl _ _ rfl rfl _ _ hr2 ?_))
 refine wp_region_still_tail 8 (by kernel_rfl) (by kernel_rfl) ?_
 simp only [List.take_succ_cons, List.take_zero, List.drop_succ_cons, List.drop_zero]
 generalize hwd : ({ w2 with drawn := w2.drawn + 1 } : World) = wd
 have OD := hq9 (draw_only hwd)
 clear hwd
 have RD := hq9 (HR2.out.only OD.out (by simp))
 have BD := hq9 (B2.out.only OD.out (by simp))
 repeat still_step
 refine wpStill_nil ?_
 refine wpList_copy_run rfl (.tmp 50) (.tmp 53) 216 216 rfl _ _ rfl rfl _ _ (HC.out wd RD.out BD.out _) ?_
 have B3 := hq9 (BD.out.row (FuMem.splice (FuMem.splice ROW o0 (linkC x)) o1 (F.drop o0)))
 have O3 := hq9 (((Only.refl [H] wd).setRow (g := H) (.inl (by simp)) (FuMem.splice (FuMem.splice ROW o0 (linkC x)) o1 (F.drop o0))))
 generalize (wd.setRow H (FuMem.splice (FuMem.splice ROW o0 (linkC x)) o1 (F.drop o0))) = w3 at *
 go_wp2
 go_ret
 obtain ⟨hRs, ho0, ho1, hn1, hn, hG2, hF, hFl, hRt, hH, hFd, hz2, hG1⟩ := HA.out
 have OO := ((O1.out.trans O2.out (fun b hb => .inr (by rw [List.mem_singleton.1 hb]; omega))).trans0 OD.out).trans O3.out (fun b hb => .inr (by rw [List.mem_singleton.1 hb]; omega))
 have hlen : ∀ y ∈ (L.take i ++ x :: L.drop i).map linkC, y.length = 5 := fun y hy => by
  obtain ⟨l, _, rfl⟩ := List.mem_map.1 hy
  rfl
 have hxl : ((L.take i ++ x :: L.drop i).map linkC).length = n1 := by
  rw [List.length_map, List.length_append, List.length_cons, List.length_take, List.length_drop]
  omega
 have hsp := splice_new (R := ROW.toList) (F := F) (X := linkC x) (N := n * 5) (k := 5) (i5 := i * 5) hFl hRt rfl (by omega) (by rw [Array.length_toList]; omega)
 rw [Array.toArray_toList, show i * 5 + 5 = o1 by omega, ← ho0, show n * 5 + 5 = n1 * 5 by omega] at hsp
 have hfl := flat_in L x i
 rw [← hF, ← ho0] at hfl
 rw [← hfl] at hsp
 have hz : (FuMem.splice (FuMem.splice ROW o0 (linkC x)) o1 (F.drop o0)).size = G * 5 := by
  rw [splice_size _ _ _ (by rw [hFd, hz2]; omega), hz2]
 exact ⟨G, rfl, ⟨⟨flatten_len hlen, .inr ⟨H, G, _, by rw [hxl], Nat.zero_le _, B3.out, by rw [hxl]; omega, hG2, hz, by rw [hxl]; exact hsp⟩⟩, hlen⟩, OO⟩
theorem link_Insert (v : Value) (L : List Link) (x : Link) (i vb : Nat) (w : World) (h : RowS 70 5 w v (L.map linkC)) (hx : Blk w vb 70 (linkC x).toArray) (hi : i ≤ L.length) (hne : v.ownBlock ≠ some vb) (hLn : L.length ≤ 100000) :
  Calls Tryz.prog 298 #[v, .int .i64 i, .slice (some ⟨vb, 0, none⟩) 1 1] w fun e w' => ∃ v', e = .returned v' ∧ RowS 70 5 w' v' ((L.take i ++ x :: L.drop i).map linkC) ∧ Only v.ownBlock.toList w w' ∧ (v'.ownBlock = v.ownBlock ∨ v'.ownBlock = some w.heap.size) := by
 by_cases he : i = L.length
 ·subst he
  refine (link_insert_end v L x vb w h hx hLn).mono ?_
  rintro e w' ⟨v', rfl, h1, h2, h3⟩
  exact ⟨v', rfl, by rw [List.take_length, List.drop_length]; exact h1, h2, h3⟩
 ·obtain ⟨A, c, rfl, hc, hcm⟩ := h.slice
  rw [List.length_map] at h hc hne ⊢
  obtain ⟨b, rfl, _⟩ := h.cell (i := 0) (by rw [List.length_map]; omega)
  by_cases hr : L.length + 1 ≤ c
  ·refine (link_insert_room b L x i c vb w h hx (by omega) hr (fun e => hne (by rw [e]; rfl))).mono ?_
   rintro e w' ⟨c', rfl, h1, h2⟩
   exact ⟨_, rfl, h1, h2.mono (fun b hb => by simpa [Value.ownBlock] using hb), .inl rfl⟩
  ·refine (link_insert_grow b L x i c vb w h hx (by omega) (by omega) hLn).mono ?_
   rintro e w' ⟨c', rfl, h1, h2⟩
   exact ⟨_, rfl, h1, h2.mono (by simp), .inr rfl⟩
end Go.Proofs.YtlggichakafkiaaGreat
namespace Go.Proofs.YtlggichakafkiaaGreat
open Go.BigFrame Go.RowKit Go.Proofs.FuMem Go.Proofs.FuTop
set_option maxRecDepth 100000
theorem find_cmp (x : Link) (k : List UInt8) (w : World) : Calls Tryz.prog 347 #[linkV x, .string ⟨k.toArray⟩] w fun e w' => e = .returned (.int .i64 (Lib.compareBytes x.key k)) ∧ Only [] w w' := by
 have HS := hq9 (fun w => str_Compare ⟨x.key.toArray⟩ ⟨k.toArray⟩ w)
 rw [show linkV x = .agg #[.string ⟨x.key.toArray⟩, .int .u64 x.id, .int .u64 x.ver, .int .i64 x.line, .int .i64 x.cls] from rfl]
 have BX := hq9 (Blk.new w 70 #[.string ⟨x.key.toArray⟩, .int .u64 x.id, .int .u64 x.ver, .int .i64 x.line, .int .i64 x.cls])
 have OX := hq9 ((Only.refl [] w).alloc (.cells #[.string ⟨x.key.toArray⟩, .int .u64 x.id, .int .u64 x.ver, .int .i64 x.line, .int .i64 x.cls] 70))
 have b0 := BX.out.cell 0
 go_enter Tryz.func347, Tryz.ntmps347
 go_wp2_with fail
 refine (HS.out _).mono ?_
 rintro e w' ⟨rfl, rfl⟩
 go_wp2
 go_ret
 exact ⟨rfl, OX.out⟩
def posOf (L : List Link) (k : List UInt8) : Nat := L.findIdx fun l => !bytesBefore l.key k
theorem posOf_le (L : List Link) (k : List UInt8) : posOf L k ≤ L.length := List.findIdx_le_length
theorem posOf_cons (y : Link) (r : List Link) (k : List UInt8) : posOf (y :: r) k = if bytesBefore y.key k = true then posOf r k + 1 else 0 := by
 unfold posOf
 rw [List.findIdx_cons]
 cases bytesBefore y.key k <;> rfl
theorem before_not {a b : List UInt8} (h : bytesBefore a b = true) : bytesBefore b a = false := by
 cases h2 : bytesBefore b a with
 | false => rfl
 | true =>
  have := WideShapes.bytes_trans a b a h h2
  rw [WideAt.bytes_irrefl] at this
  cases this
theorem posOf_eq {k : List UInt8} : ∀ {L : List Link} {i : Nat}, i ≤ L.length → (∀ t x, t < i → L[t]? = some x → bytesBefore x.key k = true) → (∀ t x, i ≤ t → L[t]? = some x → bytesBefore x.key k = false) → posOf L k = i
 | [], i, h, _, _ => by
  have : i = 0 := by simpa using h
  rw [this]
  rfl
 | y :: r, 0, _, _, h2 => by
  rw [posOf_cons, h2 0 y (Nat.le_refl _) rfl]
  rfl
 | y :: r, i + 1, h, h1, h2 => by
  rw [posOf_cons, h1 0 y (by omega) rfl, if_pos rfl]
  rw [posOf_eq (by simpa using h) (fun t x ht hx => h1 (t + 1) x (by omega) hx) (fun t x ht hx => h2 (t + 1) x (by omega) hx)]
theorem rising_at {L : List Link} (h : Rising L) {s t : Nat} {x y : Link} (hst : s < t) (hx : L[s]? = some x) (hy : L[t]? = some y) : bytesBefore x.key y.key = true := by
 have hs := (List.getElem?_eq_some_iff.1 hx)
 have ht := (List.getElem?_eq_some_iff.1 hy)
 have := List.pairwise_iff_getElem.1 h s t hs.1 ht.1 hst
 rw [hs.2, ht.2] at this
 exact this
theorem ins_new {x : Link} : ∀ {L : List Link}, hasKey L x.key = false → ins x L = L.take (posOf L x.key) ++ x :: L.drop (posOf L x.key)
 | [], _ => rfl
 | y :: r, h => by
  unfold hasKey at h
  rw [List.any_cons, Bool.or_eq_false_iff] at h
  have hne : ¬ x.key = y.key := fun e => by
   have := h.1
   rw [e] at this
   simp at this
  unfold ins
  rw [posOf_cons]
  by_cases h1 : bytesBefore x.key y.key = true
  ·rw [if_pos h1, before_not h1]
   rfl
  ·have h2 : bytesBefore y.key x.key = true := by
    rcases WideAt.bytes_total x.key y.key hne with h | h
    ·exact absurd h h1
    ·exact h
   rw [if_neg h1, if_neg hne, h2, if_pos rfl, ins_new (L := r) h.2]
   rfl
theorem ins_old {x : Link} : ∀ {L : List Link}, Rising L → hasKey L x.key = true → ins x L = L.set (posOf L x.key) x ∧ posOf L x.key < L.length ∧ ∃ y, L[posOf L x.key]? = some y ∧ y.key = x.key
 | [], _, h => by cases h
 | y :: r, hr, h => by
  unfold ins
  rw [posOf_cons]
  by_cases he : x.key = y.key
  ·rw [he, WideAt.bytes_irrefl, if_neg (by simp), if_pos rfl, if_neg (by simp)]
   exact ⟨rfl, by simp, y, rfl, rfl⟩
  ·have h2 : hasKey r x.key = true := by
    unfold hasKey at h ⊢
    rw [List.any_cons, Bool.or_eq_true] at h
    rcases h with h | h
    ·exact absurd (of_decide_eq_true h).symm he
    ·exact h
   obtain ⟨z, hz, hzk⟩ := List.any_eq_true.1 h2
   have hb : bytesBefore y.key x.key = true := by
    have := List.rel_of_pairwise_cons hr hz
    rw [of_decide_eq_true hzk] at this
    exact this
   obtain ⟨h3, h4, w, h5, h6⟩ := ins_old (List.Pairwise.of_cons hr) h2
   rw [if_neg (by rw [before_not hb]; simp), if_neg he, if_pos hb, h3]
   exact ⟨rfl, by simpa using h4, w, by simpa using h5, h6⟩
theorem hasKey_pos {L : List Link} (h : Rising L) (k : List UInt8) {x : Link} (hx : L[posOf L k]? = some x) : hasKey L k = decide (x.key = k) := by
 by_cases e : x.key = k
 ·rw [decide_eq_true e]
  unfold hasKey
  rw [List.any_eq_true]
  exact ⟨x, List.mem_of_getElem? hx, by simpa using e⟩
 ·rw [decide_eq_false e]
  cases hh : hasKey L k with
  | false => rfl
  | true =>
   obtain ⟨_, _, y, hy, hk⟩ := ins_old (x := ⟨k, 0, 0, 0, 0⟩) h hh
   have : some x = some y := hx.symm.trans hy
   injection this with this
   exact absurd (by rw [this]; exact hk) e
theorem hasKey_end {L : List Link} (h : Rising L) (k : List UInt8) (hx : posOf L k = L.length) : hasKey L k = false := by
 cases hh : hasKey L k with
 | false => rfl
 | true =>
  obtain ⟨_, hlt, _⟩ := ins_old (x := ⟨k, 0, 0, 0, 0⟩) h hh
  have : posOf L k < L.length := hlt
  omega
end Go.Proofs.YtlggichakafkiaaGreat
namespace Go.Proofs.YtlggichakafkiaaGreat
open Go.BigFrame Go.RowKit Go.Proofs.FuMem Go.Proofs.FuTop
set_option maxRecDepth 100000
theorem compare_self : ∀ a : List UInt8, Lib.compareBytes a a = 0
 | [] => rfl
 | x :: r => by
  unfold Lib.compareBytes
  simp [compare_self r]
theorem compare_zero : ∀ a b : List UInt8, Lib.compareBytes a b = 0 → a = b
 | [], [], _ => rfl
 | [], _ :: _, h => by simp [Lib.compareBytes] at h
 | _ :: _, [], h => by simp [Lib.compareBytes] at h
 | x :: r, y :: s, h => by
  unfold Lib.compareBytes at h
  split at h
  ·simp at h
  ·split at h
   ·simp at h
   ·rename_i h1 h2
    have e : x = y := by
     apply UInt8.toNat_inj.1
     have h3 := Nat.le_of_not_lt fun h => h1 (UInt8.lt_iff_toNat_lt.2 h)
     have h4 := Nat.le_of_not_lt fun h => h2 (UInt8.lt_iff_toNat_lt.2 h)
     omega
    rw [e, compare_zero r s h]
theorem row_link {w : World} {A : Option Addr} {n c : Nat} {L : List Link} (h : RowS 70 5 w (.slice A n c) (L.map linkC)) {k : Nat} {x : Link} (hx : L[k]? = some x) :
  ∃ g, A = some ⟨g, 0, none⟩ ∧ w.cell? ⟨g, k * 5, none⟩ = some (.string ⟨x.key.toArray⟩) ∧ w.cell? ⟨g, k * 5 + 1, none⟩ = some (.int .u64 x.id) ∧ w.cell? ⟨g, k * 5 + 2, none⟩ = some (.int .u64 x.ver) ∧ w.cell? ⟨g, k * 5 + 3, none⟩ = some (.int .i64 x.line) ∧ w.cell? ⟨g, k * 5 + 4, none⟩ = some (.int .i64 x.cls) := by
 obtain ⟨hk, hx⟩ := List.getElem?_eq_some_iff.1 hx
 obtain ⟨g, rfl, hc⟩ := h.cell (i := k) (by rw [List.length_map]; exact hk)
 have he : (L.map linkC)[k]'(by rw [List.length_map]; exact hk) = linkC x := by rw [List.getElem_map, hx]
 rw [he] at hc
 exact ⟨g, rfl, hc 0 (by omega), hc 1 (by omega), hc 2 (by omega), hc 3 (by omega), hc 4 (by omega)⟩
set_option maxHeartbeats 2000000 in
theorem link_search (v : Value) (L : List Link) (k : List UInt8) (w : World) (h : RowS 70 5 w v (L.map linkC)) (hr : Rising L) (hn : L.length ≤ 100000) :
  Calls Tryz.prog 346 #[v, .string ⟨k.toArray⟩, .func (.func 347) #[] #[]] w fun e w' => e = .returned (.tuple #[.int .i64 (posOf L k), .bool (hasKey L k)]) ∧ Only [] w w' := by
 obtain ⟨A, c, rfl, hc, hcm⟩ := h.slice
 obtain ⟨n, hnl⟩ : ∃ n, n = L.length := ⟨_, rfl⟩
 rw [List.length_map, ← hnl] at h
 rw [List.length_map]
 rw [← hnl] at hn ⊢
 have HR := hq9 h
 have HI := hq9 hr
 have HN := hq9 hnl
 have HC := hq9 (fun x w => find_cmp x k w)
 clear h hr hnl hc hcm
 go_enter Tryz.func346, Tryz.ntmps346
 go_wp2_with fail
 go_loopw [9, 10] (fun vi vj wr => ∃ i j : Nat, vi = .int .i64 i ∧ vj = .int .i64 j ∧ i ≤ j ∧ j ≤ n ∧ (∀ t x, t < i → L[t]? = some x → bytesBefore x.key k = true) ∧ (∀ t x, j ≤ t → L[t]? = some x → bytesBefore x.key k = false) ∧ Only [] w wr) (fun vi vj _ => (intOf vj).toNat - (intOf vi).toNat)
 case atStart => exact ⟨0, n, rfl, rfl, by omega, by omega, fun t x ht _ => by omega, fun t x ht hx => by have := (List.getElem?_eq_some_iff.1 hx).1; have := HN.out; omega, Only.refl _ _⟩
 case round =>
  obtain ⟨i, j, rfl, rfl, hij, hjn, h1, h2, ho⟩ := hrel
  have H1 := hq9 h1
  have H2 := hq9 h2
  have ON := hq9 ho
  clear h1 h2 ho
  by_cases hlt : i < j
  ·have q1 : decide ((i : Int) < (j : Int)) = true := by go_num
   obtain ⟨h, hh⟩ : ∃ h, h = (i + j) / 2 := ⟨_, rfl⟩
   have hhL : h < L.length := by have := HN.out; omega
   obtain ⟨x, hx⟩ : ∃ x, L[h]? = some x := ⟨_, List.getElem?_eq_getElem hhL⟩
   obtain ⟨g, rfl, e0, e1, e2, e3, e4⟩ := row_link (HR.out.only0 ON.out) hx
   subst hh
   have HX := hq9 hx
   have HM := hq9 (show i ≤ (i + j) / 2 ∧ (i + j) / 2 < j by omega)
   have hwr : IntKind.i64.wrap (((i : Int) + (j : Int)) / 2 + 1) = ((i : Int) + (j : Int)) / 2 + 1 := by rw [IntKind.wrap_i64]; omega
   clear hx
   go_wp2_with fail
   refine (HC.out x wr).mono ?_
   rintro e w1 ⟨rfl, o1⟩
   have O1 := hq9 (ON.out.trans0 o1)
   clear o1
   have HCL := hq9 (compare_lt x.key k)
   by_cases hb : bytesBefore x.key k = true
   ·have q2 : decide (Lib.compareBytes x.key k < 0) = true := decide_eq_true (HCL.out.2 hb)
    have N1 := hq9 (show ∀ t y, t < (i + j) / 2 + 1 → L[t]? = some y → bytesBefore y.key k = true from fun t y ht hy => by
     by_cases e : t = (i + j) / 2
     ·rw [e, HX.out] at hy
      injection hy with hy
      rw [← hy]
      exact hb
     ·exact WideShapes.bytes_trans _ _ _ (rising_at HI.out (by omega) hy HX.out) hb)
    clear hb
    go_wp2_with fail
    go_roundw
    case rel => exact ⟨(i + j) / 2 + 1, j, congrArg (Value.int .i64) (by omega), rfl, by have := HM.out; omega, hjn, N1.out, H2.out, O1.out⟩
    case measure =>
     have hm := HM.out
     have e : ((i : Int) + (j : Int)) / 2 = (((i + j) / 2 : Nat) : Int) := by omega
     generalize (i + j) / 2 = h at *
     simp only [intOf, e]
     omega
   ·have q2 : decide (Lib.compareBytes x.key k < 0) = false := decide_eq_false fun h => hb (HCL.out.1 h)
    have N1 := hq9 (show ∀ t y, (i + j) / 2 ≤ t → L[t]? = some y → bytesBefore y.key k = false from fun t y ht hy => by
     have hb' : bytesBefore x.key k = false := by simpa using hb
     by_cases e : t = (i + j) / 2
     ·rw [e, HX.out] at hy
      injection hy with hy
      rw [← hy]
      exact hb'
     ·have h3 := rising_at HI.out (show (i + j) / 2 < t by omega) HX.out hy
      cases h4 : bytesBefore y.key k with
      | false => rfl
      | true =>
       have := WideShapes.bytes_trans _ _ _ h3 h4
       rw [hb'] at this
       cases this)
    clear hb
    go_wp2_with fail
    go_roundw
    case rel => exact ⟨i, (i + j) / 2, rfl, congrArg (Value.int .i64) (by omega), by have := HM.out; omega, by have := HM.out; omega, H1.out, N1.out, O1.out⟩
    case measure =>
     have hm := HM.out
     have e : ((i : Int) + (j : Int)) / 2 = (((i + j) / 2 : Nat) : Int) := by omega
     generalize (i + j) / 2 = h at *
     simp only [intOf, e]
     omega
  ·have q1 : decide ((i : Int) < (j : Int)) = false := by go_num
   have hpos := posOf_eq (k := k) (L := L) (i := i) (by have := HN.out; omega) H1.out (fun t x ht hx => H2.out t x (by omega) hx)
   have HP := hq9 hpos
   clear hpos
   by_cases hlt2 : i < n
   ·have q3 : decide ((i : Int) < (n : Int)) = true := by go_num
    have hhL : i < L.length := by have := HN.out; omega
    obtain ⟨x, hx⟩ : ∃ x, L[i]? = some x := ⟨_, List.getElem?_eq_getElem hhL⟩
    obtain ⟨g, rfl, e0, e1, e2, e3, e4⟩ := row_link (HR.out.only0 ON.out) hx
    have HX := hq9 hx
    clear hx
    go_wp2_with fail
    refine (HC.out x wr).mono ?_
    rintro e w1 ⟨rfl, o1⟩
    have O1 := hq9 (ON.out.trans0 o1)
    clear o1
    have HK := hasKey_pos HI.out k (x := x) (by rw [HP.out]; exact HX.out)
    by_cases he : x.key = k
    ·have q2 : (Lib.compareBytes x.key k == 0) = true := by rw [he, compare_self]; rfl
     rw [decide_eq_true he] at HK
     have HKK := hq9 HK
     clear HK he
     go_wp2
     go_ret2
     exact ⟨by rw [HP.out, HKK.out]; rfl, O1.out⟩
    ·have q2 : (Lib.compareBytes x.key k == 0) = false := by simpa using fun h => he (compare_zero _ _ h)
     rw [decide_eq_false he] at HK
     have HKK := hq9 HK
     clear HK he
     go_wp2
     go_ret2
     exact ⟨by rw [HP.out, HKK.out]; rfl, O1.out⟩
   ·have q3 : decide ((i : Int) < (n : Int)) = false := by go_num
    have HKK := hq9 (hasKey_end HI.out k (by have := HN.out; rw [HP.out]; omega))
    go_wp2
    go_ret2
    exact ⟨by rw [HP.out, HKK.out]; rfl, ON.out⟩
theorem order_find (v : Value) (L : List Link) (k : List UInt8) (w : World) (h : RowS 70 5 w v (L.map linkC)) (hr : Rising L) (hn : L.length ≤ 100000) :
  Calls Tryz.prog 297 #[v, .string ⟨k.toArray⟩] w fun e w' => e = .returned (.tuple #[.int .i64 (posOf L k), .bool (hasKey L k)]) ∧ Only [] w w' := by
 have HS := hq9 (link_search v L k w h hr hn)
 generalize posOf L k = p at *
 generalize hasKey L k = q at *
 clear h
 go_enter Tryz.func297, Tryz.ntmps297
 go_wp2_with fail
 refine HS.out.mono ?_
 rintro e w' ⟨rfl, o⟩
 have O := hq9 o
 clear o
 go_wp2
 go_ret2
 exact ⟨rfl, O.out⟩
end Go.Proofs.YtlggichakafkiaaGreat
namespace Go.Proofs.YtlggichakafkiaaGreat
open Go.BigFrame Go.RowKit Go.Proofs.FuMem Go.Proofs.FuTop Go.Proofs.FuCrc
set_option maxRecDepth 100000
def ownsOf (vs : List Value) : List Nat := vs.flatMap fun v => v.ownBlock.toList
structure LevAt (w : World) (g : Nat) (vs : List Value) (Ls : List (List Link)) : Prop where
 head : Blk w g 316 vs.toArray
 n4 : vs.length = 4
 m4 : Ls.length = 4
 each : ∀ (i : Nat) (v : Value) (L : List Link), vs[i]? = some v → Ls[i]? = some L → RowS 70 5 w v (L.map linkC)
 nodup : (g :: ownsOf vs).Nodup
theorem mem_owns {vs : List Value} {i : Nat} {v : Value} (h : vs[i]? = some v) {b : Nat} (hb : v.ownBlock = some b) : b ∈ ownsOf vs :=
 List.mem_flatMap.2 ⟨v, List.mem_of_getElem? h, by rw [hb]; simp⟩
theorem LevAt.only {w w' : World} {g : Nat} {vs : List Value} {Ls : List (List Link)} {S : List Nat} (h : LevAt w g vs Ls) (ho : Only S w w') (hs : ∀ b ∈ g :: ownsOf vs, b ∉ S) : LevAt w' g vs Ls :=
 ⟨h.head.only ho (hs g (by simp)), h.n4, h.m4, fun i v L hv hL => (h.each i v L hv hL).only ho fun b hb => hs b (List.mem_cons_of_mem _ (mem_owns hv hb)), h.nodup⟩
theorem LevAt.lt {w : World} {g : Nat} {vs : List Value} {Ls : List (List Link)} (h : LevAt w g vs Ls) : ∀ b ∈ g :: ownsOf vs, b < w.heap.size := fun b hb => by
 rcases List.mem_cons.1 hb with rfl | hb
 ·exact h.head.lt
 ·obtain ⟨v, hv, hb⟩ := List.mem_flatMap.1 hb
  obtain ⟨i, hi⟩ := List.getElem?_of_mem hv
  have hi4 : i < Ls.length := by
   have := (List.getElem?_eq_some_iff.1 hi).1
   have := h.n4
   have := h.m4
   omega
  exact (h.each i v _ hi (List.getElem?_eq_getElem hi4)).lt b (by
   cases e : v.ownBlock with
   | none => rw [e] at hb; simp at hb
   | some y => rw [e] at hb; simp at hb; rw [hb])
theorem nodup_set {g : Nat} {b' : List Nat} : ∀ {vs : List Value} {i : Nat} {v v' : Value}, (g :: ownsOf vs).Nodup → vs[i]? = some v → v'.ownBlock.toList = b' → (∀ b ∈ b', b ∈ v.ownBlock.toList ∨ b ∉ g :: ownsOf vs) → (g :: ownsOf (vs.set i v')).Nodup
 | [], i, v, v', _, h, _, _ => by simp at h
 | u :: vs, 0, v, v', hn, h, hb, hf => by
  have e : u = v := by simpa using h
  subst e
  unfold ownsOf at hn hf ⊢
  rw [List.flatMap_cons] at hn hf
  rw [List.set_cons_zero, List.flatMap_cons, hb]
  have hl : b'.length ≤ 1 := by
   rw [← hb]
   cases v'.ownBlock <;> simp
  rw [List.nodup_cons, List.mem_append, List.nodup_append] at hn ⊢
  refine ⟨fun hg => ?_, ?_, hn.2.2.1, fun a ha c hc e => ?_⟩
  ·rcases hg with hg | hg
   ·rcases hf g hg with h | h
    ·exact hn.1 (.inl h)
    ·exact h (by simp)
   ·exact hn.1 (.inr hg)
  ·match b', hl with
   | [], _ => exact List.nodup_nil
   | [_], _ => simp
  ·subst e
   rcases hf a ha with h | h
   ·exact hn.2.2.2 a h a hc rfl
   ·exact h (List.mem_cons_of_mem _ (List.mem_append_right _ hc))
 | u :: vs, i + 1, v, v', hn, h, hb, hf => by
  have hi : vs[i]? = some v := by simpa using h
  unfold ownsOf at hn
  rw [List.flatMap_cons] at hn
  have hn' : (g :: ownsOf vs).Nodup := by
   rw [List.nodup_cons, List.mem_append, List.nodup_append] at hn
   exact List.nodup_cons.2 ⟨fun h => hn.1 (.inr h), hn.2.2.1⟩
  have ih := nodup_set (v' := v') hn' hi hb (fun b hb' => (hf b hb').imp id fun h h2 => h (by
   unfold ownsOf at h2 ⊢
   rw [List.flatMap_cons]
   rcases List.mem_cons.1 h2 with rfl | h2
   ·simp
   ·exact List.mem_cons_of_mem _ (List.mem_append_right _ h2)))
  unfold ownsOf at ih hf ⊢
  rw [List.flatMap_cons] at hf
  rw [List.set_cons_succ, List.flatMap_cons]
  rw [List.nodup_cons, List.mem_append, List.nodup_append] at hn ⊢
  rw [List.nodup_cons] at ih
  refine ⟨fun hg => hg.elim (fun h => hn.1 (.inl h)) ih.1, hn.2.1, ih.2, fun a ha c hc e => ?_⟩
  subst e
  obtain ⟨x, hx, hax⟩ := List.mem_flatMap.1 hc
  rcases List.mem_or_eq_of_mem_set hx with hx | hx
  ·exact hn.2.2.2 a ha a (List.mem_flatMap.2 ⟨x, hx, hax⟩) rfl
  ·subst hx
   rw [hb] at hax
   rcases hf a hax with h | h
   ·exact hn.2.2.2 a ha a (List.mem_flatMap.2 ⟨v, List.mem_of_getElem? hi, h⟩) rfl
   ·exact h (List.mem_cons_of_mem _ (List.mem_append_left _ ha))
end Go.Proofs.YtlggichakafkiaaGreat
namespace Go.Proofs.YtlggichakafkiaaGreat
open Go.BigFrame Go.RowKit Go.Proofs.FuMem Go.Proofs.FuTop Go.Proofs.FuCrc
set_option maxRecDepth 100000
theorem order_New (w : World) : Calls Tryz.prog 138 #[] w fun e w' => ∃ g, e = .returned (.pointer (some ⟨g, 0, none⟩)) ∧ LevAt w' g (List.replicate 4 (.slice none 0 0)) (List.replicate 4 []) ∧ Only [] w w' ∧ w.heap.size ≤ g := by
 go_enter Tryz.func138, Tryz.ntmps138
 go_wp2
 go_ret
 refine ⟨_, rfl, ⟨Blk.new _ _ _, rfl, rfl, fun i v L hv hL => ?_, ?_⟩, (Only.refl _ _).alloc _, Nat.le_refl _⟩
 ·have h1 : v = .slice none 0 0 := (List.mem_replicate.1 (List.mem_of_getElem? hv)).2
  have h2 : L = [] := (List.mem_replicate.1 (List.mem_of_getElem? hL)).2
  subst h1 h2
  exact RowS.nil _ _ _
 ·simp [ownsOf, Value.ownBlock]
theorem RowS.blk {e : TypeId} {k : Nat} {w : World} {g n c : Nat} {xs : List (List Value)} (h : RowS e k w (.slice (some ⟨g, 0, none⟩) n c) xs) : ∃ cur, Blk w g e cur ∧ n = xs.length ∧ n ≤ c ∧ c ≤ maxLen ∧ cur.size = c * k ∧ cur.toList.take (n * k) = xs.flatten := by
 rcases h.row.2 with ⟨hv, h0⟩ | ⟨b, cap, cur, hv, _, hg, hcc, hcm, hcs, htk⟩
 ·cases hv
 injection hv with h1 h2 h3
 injection h1 with h1
 injection h1 with h1
 subst h1 h2 h3
 exact ⟨cur, hg, rfl, hcc, hcm, hcs, htk⟩
theorem flat_set (x : Link) : ∀ (L : List Link) (i : Nat), i < L.length → ((L.set i x).map linkC).flatten = ((L.map linkC).flatten).take (i * 5) ++ linkC x ++ ((L.map linkC).flatten).drop (i * 5 + 5)
 | [], _, h => by simp at h
 | y :: r, 0, _ => by
  rw [List.set_cons_zero, List.map_cons, List.flatten_cons, List.map_cons, List.flatten_cons, Nat.zero_mul, List.take_zero, List.nil_append]
  rfl
 | y :: r, i + 1, h => by
  have e : (i + 1) * 5 = (linkC y).length + i * 5 := by show _ = 5 + i * 5; omega
  rw [List.set_cons_succ, List.map_cons, List.flatten_cons, List.map_cons, List.flatten_cons, flat_set x r i (by simpa using h), e, List.take_length_add_append, Nat.add_assoc, List.drop_length_add_append]
  simp only [List.append_assoc]
theorem RowS.store {w w' : World} {g n c i : Nat} {L : List Link} {x : Link} {cur : Array Value} (h : RowS 70 5 w (.slice (some ⟨g, 0, none⟩) n c) (L.map linkC)) (hb : Blk w g 70 cur) (hi : i < L.length) (hb' : Blk w' g 70 (FuMem.splice cur (i * 5) (linkC x))) :
  RowS 70 5 w' (.slice (some ⟨g, 0, none⟩) n c) ((L.set i x).map linkC) := by
 obtain ⟨cur', hc, hn, hnc, hcm, hcs, htk⟩ := RowS.blk h
 have : cur = cur' := by
  have := hb.symm.trans hc
  injection this with this
  injection this
 subst this
 rw [List.length_map] at hn
 have hlen : ∀ y ∈ (L.set i x).map linkC, y.length = 5 := fun y hy => by
  obtain ⟨l, _, rfl⟩ := List.mem_map.1 hy
  rfl
 have hF : (L.map linkC).flatten.length = n * 5 := by
  rw [flatten_len h.len, List.length_map, hn]
 have hxl : ((L.set i x).map linkC).length = n := by rw [List.length_map, List.length_set, hn]
 have hin : i * 5 + 5 ≤ n * 5 := by omega
 have hnc5 : n * 5 ≤ c * 5 := by omega
 refine ⟨⟨flatten_len hlen, .inr ⟨g, c, _, by rw [hxl], Nat.zero_le _, hb', by rw [hxl]; exact hnc, hcm, by rw [splice_size _ _ _ (by show _ + 5 ≤ _; omega), hcs], ?_⟩⟩, hlen⟩
 rw [hxl, flat_set x L i hi, ← htk]
 unfold FuMem.splice
 rw [List.toList_toArray, List.take_take, Nat.min_eq_left (by omega), List.drop_take]
 have e1 : (cur.toList.take (i * 5) ++ linkC x).length = i * 5 + 5 := by
  rw [List.length_append, List.length_take, Array.length_toList]
  show min _ _ + 5 = _
  omega
 rw [List.take_append, e1, List.take_of_length_le (by rw [e1]; omega)]
 rfl
theorem owns_ne {g : Nat} : ∀ {vs : List Value} {i j : Nat} {v u : Value} {b : Nat}, (g :: ownsOf vs).Nodup → vs[i]? = some v → vs[j]? = some u → i ≠ j → u.ownBlock = some b → b ≠ g ∧ b ∉ v.ownBlock.toList
 | [], i, _, _, _, _, _, h, _, _, _ => by simp at h
 | y :: r, i, j, v, u, b, hn, hi, hj, hij, hb => by
  unfold ownsOf at hn
  rw [List.flatMap_cons, List.nodup_cons, List.mem_append, List.nodup_append] at hn
  have hn' : (g :: ownsOf r).Nodup := List.nodup_cons.2 ⟨fun h => hn.1 (.inr h), hn.2.2.1⟩
  have hbu : b ∈ u.ownBlock.toList := by rw [hb]; simp
  match i, j with
  | 0, 0 => exact absurd rfl hij
  | 0, j + 1 =>
   have e : y = v := by simpa using hi
   subst e
   have hm : b ∈ ownsOf r := mem_owns (i := j) (by simpa using hj) hb
   exact ⟨fun e => hn.1 (.inr (by rw [← e]; exact hm)), fun h => hn.2.2.2 b h b hm rfl⟩
  | i + 1, 0 =>
   have e : y = u := by simpa using hj
   subst e
   refine ⟨fun e => hn.1 (.inl (by rw [← e]; exact hbu)), fun h => ?_⟩
   have hvb : v.ownBlock = some b := by
    cases e : v.ownBlock with
    | none => rw [e] at h; simp at h
    | some z => rw [e] at h; simp at h; rw [h]
   exact hn.2.2.2 b hbu b (mem_owns (i := i) (by simpa using hi) hvb) rfl
  | i + 1, j + 1 => exact owns_ne hn' (by simpa using hi) (by simpa using hj) (by omega) hb
theorem LevAt.put {w w' : World} {g : Nat} {us : List Value} {Ms : List (List Link)} (h : LevAt w g us Ms) {i : Nat} {v v' : Value} {L' : List Link} (hv : us[i]? = some v) (hB : Blk w' g 316 (us.set i v').toArray) (ho : Only (g :: v.ownBlock.toList) w w') (hr : RowS 70 5 w' v' (L'.map linkC))
  (hf : ∀ b ∈ v'.ownBlock.toList, b ∈ v.ownBlock.toList ∨ w.heap.size ≤ b) : LevAt w' g (us.set i v') (Ms.set i L') where
 head := hB
 n4 := by rw [List.length_set]; exact h.n4
 m4 := by rw [List.length_set]; exact h.m4
 each := fun j u M hu hM => by
  by_cases e : i = j
  ·subst e
   have hl1 := (List.getElem?_eq_some_iff.1 hu).1
   have hl2 := (List.getElem?_eq_some_iff.1 hM).1
   rw [List.getElem?_set, if_pos rfl, if_pos (by simpa using hl1)] at hu
   rw [List.getElem?_set, if_pos rfl, if_pos (by simpa using hl2)] at hM
   injection hu with hu
   injection hM with hM
   rw [← hu, ← hM]
   exact hr
  ·rw [List.getElem?_set, if_neg e] at hu hM
   refine (h.each j u M hu hM).only ho fun b hb => ?_
   have := owns_ne h.nodup hv hu e hb
   rw [List.mem_cons]
   exact fun h => h.elim this.1 this.2
 nodup := nodup_set h.nodup hv rfl fun b hb => (hf b hb).imp id fun hge hm => by
  have := h.lt b hm
  omega
theorem set_same {us : List Value} {i : Nat} {v : Value} (h : us[i]? = some v) : us.set i v = us := by
 apply List.ext_getElem?
 intro j
 rw [List.getElem?_set]
 by_cases e : i = j
 ·subst e
  rw [if_pos rfl, if_pos (List.getElem?_eq_some_iff.1 h).1, h]
 ·rw [if_neg e]
theorem owns_set {us : List Value} {i : Nat} {v v' : Value} (h : us[i]? = some v) {c : Nat} (hc : c ∈ ownsOf (us.set i v')) : c ∈ ownsOf us ∨ c ∈ v'.ownBlock.toList := by
 obtain ⟨u, hu, hcu⟩ := List.mem_flatMap.1 hc
 rcases List.mem_or_eq_of_mem_set hu with hu | hu
 ·exact .inl (List.mem_flatMap.2 ⟨u, hu, hcu⟩)
 ·rw [hu] at hcu
  exact .inr hcu
end Go.Proofs.YtlggichakafkiaaGreat
namespace Go.Proofs.YtlggichakafkiaaGreat
open Go.BigFrame Go.RowKit Go.Proofs.FuMem Go.Proofs.FuTop Go.Proofs.FuCrc
set_option maxRecDepth 100000
def setLev (n : Nat) (x : Link) (Ls : List (List Link)) : List (List Link) := Ls.mapIdx fun i L => if i < n then ins x L else L
theorem setLev_at (n : Nat) (x : Link) (Ls : List (List Link)) (i : Nat) : (setLev n x Ls)[i]? = (Ls[i]?).map fun L => if i < n then ins x L else L := by
 unfold setLev
 rw [List.getElem?_mapIdx]
theorem setLev_zero (x : Link) (Ls : List (List Link)) : setLev 0 x Ls = Ls := by
 apply List.ext_getElem?
 intro i
 rw [setLev_at]
 cases Ls[i]? <;> simp
theorem setLev_succ {n : Nat} {x : Link} {Ls : List (List Link)} {L : List Link} (h : Ls[n]? = some L) : setLev (n + 1) x Ls = (setLev n x Ls).set n (ins x L) := by
 apply List.ext_getElem?
 intro i
 rw [List.getElem?_set, setLev_at, setLev_at]
 by_cases e : n = i
 ·subst e
  have hl := (List.getElem?_eq_some_iff.1 h).1
  rw [if_pos rfl, if_pos (by simpa [setLev] using hl), h]
  simp
 ·rw [if_neg e]
  cases Ls[i]? with
  | none => rfl
  | some M =>
   simp only [Option.map_some]
   by_cases h1 : i < n
   ·rw [if_pos h1, if_pos (by omega)]
   ·rw [if_neg h1, if_neg (by omega)]
theorem lev_le (c : Nat) : lev c ≤ 4 := (lev_lo c).2
set_option maxHeartbeats 4000000 in
theorem order_Set (g : Nat) (vs : List Value) (Ls : List (List Link)) (x : Link) (w : World) (h : LevAt w g vs Ls) (hr : ∀ L ∈ Ls, Rising L ∧ L.length ≤ 99999) (hs : x.key.length ≤ maxLen) :
  Calls Tryz.prog 243 #[.pointer (some ⟨g, 0, none⟩), linkV x] w fun e w' => ∃ b vs', e = .returned (.bool b) ∧ LevAt w' g vs' (setLev (lev (crc x.key)) x Ls) ∧ Only (g :: ownsOf vs) w w' ∧ ∀ c ∈ ownsOf vs', c ∈ ownsOf vs ∨ w.heap.size ≤ c := by
 have HPL := hq9 (fun w => place_Level ⟨x.key.toArray⟩ w (by show x.key.toArray.size ≤ _; simpa using hs))
 rw [show (ByteArray.mk x.key.toArray).data.toList = x.key by simp] at HPL
 have hl4 := lev_le (crc x.key)
 generalize lev (crc x.key) = m at *
 have H := hq9 h
 have HRR := hq9 hr
 have BX := hq9 (Blk.new w 70 #[.string ⟨x.key.toArray⟩, .int .u64 x.id, .int .u64 x.ver, .int .i64 x.line, .int .i64 x.cls])
 have OX := hq9 ((Only.refl [] w).alloc (.cells #[.string ⟨x.key.toArray⟩, .int .u64 x.id, .int .u64 x.ver, .int .i64 x.line, .int .i64 x.cls] 70))
 have b0 := BX.out.cell 0
 rw [show linkV x = .agg #[.string ⟨x.key.toArray⟩, .int .u64 x.id, .int .u64 x.ver, .int .i64 x.line, .int .i64 x.cls] from rfl]
 clear h hr
 go_enter Tryz.func243, Tryz.ntmps243
 go_wp2_with fail
 generalize (w.alloc (.cells #[.string ⟨x.key.toArray⟩, .int .u64 x.id, .int .u64 x.ver, .int .i64 x.line, .int .i64 x.cls] 70)) = w1 at *
 have hw1 := BX.out.lt
 refine (HPL.out _).mono ?_
 rintro e w' ⟨rfl, rfl⟩
 clear b0
 go_wp2_with fail
 go_loopw [5, 14] (fun had vi wr => ∃ (i : Nat) (us : List Value) (b : Bool), vi = .int .i64 i ∧ had = .bool b ∧ i ≤ m ∧ LevAt wr g us (setLev i x Ls) ∧ Only (g :: ownsOf vs) w wr ∧ Blk wr w.heap.size 70 #[.string ⟨x.key.toArray⟩, .int .u64 x.id, .int .u64 x.ver, .int .i64 x.line, .int .i64 x.cls] ∧ (∀ c ∈ ownsOf us, c ∈ ownsOf vs ∨ w.heap.size < c)) (fun _ vi _ => m - (intOf vi).toNat)
 case atStart => exact ⟨0, vs, false, rfl, rfl, by omega, by rw [setLev_zero]; exact H.out.only OX.out (by simp), OX.out.mono (by simp), BX.out, fun c hc => .inl hc⟩
 case round =>
  obtain ⟨i, us, bb, rfl, rfl, hi, hL, ho, hbx, hus⟩ := hrel
  have HL := hq9 hL
  have ON := hq9 ho
  have HX := hq9 hbx
  have HU := hq9 hus
  clear hL ho hbx hus
  by_cases hlt : i < m
  ·have q1 : decide ((i : Int) < (m : Int)) = true := by go_num
   obtain ⟨v, hv⟩ : ∃ v, us[i]? = some v := ⟨_, List.getElem?_eq_getElem (by rw [HL.out.n4]; omega)⟩
   obtain ⟨L, hLi⟩ : ∃ L, Ls[i]? = some L := ⟨_, List.getElem?_eq_getElem (by have := H.out.m4; omega)⟩
   have hLi' : (setLev i x Ls)[i]? = some L := by rw [setLev_at, hLi]; simp
   have HR := hq9 (HL.out.each i v L hv hLi')
   have HRI := hq9 (HRR.out L (List.mem_of_getElem? hLi))
   have HV := hq9 (And.intro hv (And.intro hLi hLi'))
   have c0 : wr.cell? ⟨g, i, none⟩ = some v := by rw [HL.out.head.cell]; simpa using hv
   have c1 := HX.out.cell 0
   clear hv hLi hLi'
   have hi4 : (i : Int) < 4 := by omega
   go_wp2_with fail
   have hl := fun (p : Later wr) => Later.cell p c0
   have hl1 := fun (p : Later wr) => Later.cell p c1
   clear c0 c1
   refine wp_region_later wr (by kernel_rfl) (by kernel_rfl) ?_
   have hf := fun (p : Later wr) => order_find v L x.key p.w (HR.out.only0 p.only) HRI.out.1 (by have := HRI.out.2; omega)
   obtain ⟨at_, hat⟩ : ∃ a, a = posOf L x.key := ⟨_, rfl⟩
   have HAT := hq9 hat
   rw [← hat] at hf
   clear hat
   by_cases hk : hasKey L x.key = true
   ·have HKK := hq9 hk
    rw [hk] at hf
    clear hk
    have HF := hq9 hf
    clear hf
    repeat (go_big_quiet_step (fail))
    go_big_quiet_step (exact Calls.later (HF.out _))
    repeat (go_big_quiet_step (fail))
    refine wpQuiet_nil ?_
    intro _ hw'
    obtain ⟨p, hw''⟩ := hw'
    subst hw''
    have opw := p.only
    generalize p.w = w2 at *
    have O2 := hq9 (ON.out.trans0 opw)
    have L2 := hq9 (HL.out.only opw (by simp))
    have X2 := hq9 (HX.out.only opw (by simp))
    have R2 := hq9 (HR.out.only0 opw)
    clear hl hl1 opw
    obtain ⟨hins, hlt3, y, hy, _⟩ := ins_old HRI.out.1 HKK.out
    rw [← HAT.out] at hins hlt3 hy
    obtain ⟨b, n, c, rfl⟩ : ∃ b n c, v = .slice (some ⟨b, 0, none⟩) n c := by
     obtain ⟨A, c, hv, _⟩ := HR.out.slice
     subst hv
     obtain ⟨b, rfl, _⟩ := row_link HR.out hy
     exact ⟨b, _, c, rfl⟩
    obtain ⟨cur, hcur, hnL, hnc, hcm, hcs, _⟩ := RowS.blk R2.out
    rw [List.length_map] at hnL
    have h1 : (at_ : Int) < (n : Int) := by omega
    have HINS := hq9 (And.intro hins (And.intro hlt3 (And.intro hcs (And.intro hnL hnc))))
    have HCUR := hq9 hcur
    clear hins hlt3 hy hcur hnL hcm hcs hnc
    go_wp2_with fail
    refine wp_region_still_tail 9 (by kernel_rfl) (by kernel_rfl) ?_
    simp only [List.take_succ_cons, List.take_zero, List.drop_succ_cons, List.drop_zero]
    generalize hwd : ({ w2 with drawn := w2.drawn + 1 } : World) = wd
    have OD := hq9 (draw_only hwd)
    clear hwd
    have LD := hq9 (L2.out.only OD.out (by simp))
    have XD := hq9 (X2.out.only OD.out (by simp))
    have CD := hq9 (HCUR.out.only OD.out (by simp))
    have RD := hq9 (R2.out.only0 OD.out)
    have c0 : wd.cell? ⟨g, i, none⟩ = some (.slice (some ⟨b, 0, none⟩) n c) := by rw [LD.out.head.cell]; simpa using HV.out.1
    have b0 := XD.out.cell 0
    have b1 := XD.out.cell 1
    have b2 := XD.out.cell 2
    have b3 := XD.out.cell 3
    have b4 := XD.out.cell 4
    repeat still_step
    refine wpStill_nil ?_
    refine wpList_store_blk rfl 70 (.tmp 39) (.tmp 38) rfl b (at_ * 5) (linkC x).toArray rfl rfl 70 cur CD.out (by have := HINS.out; show _ + 5 ≤ _; omega) linkSize (link_one x) ?_
    intro w3 hb3 ho3 hs3
    have R3 := hq9 (RowS.store RD.out CD.out HINS.out.2.1 hb3)
    have O3 := hq9 ho3
    clear b0 b1 b2 b3 b4 c0 hb3 ho3 hs3
    go_wp2
    go_roundw
    case rel =>
     have hbm : b ∈ ownsOf us := mem_owns HV.out.1 rfl
     have hbv : b ∈ ownsOf vs ∨ w.heap.size < b := HU.out b hbm
     have hne : b ≠ g := fun e => (List.nodup_cons.1 LD.out.nodup).1 (by rw [← e]; exact hbm)
     have hput := LD.out.put (v' := .slice (some ⟨b, 0, none⟩) n c) (L' := L.set at_ x) HV.out.1 (by rw [set_same HV.out.1]; exact LD.out.head.only O3.out (by simpa using fun e => hne e.symm)) (O3.out.mono (fun c hc => by simp [Value.ownBlock] at hc ⊢; exact .inr hc)) R3.out (fun c hc => .inl hc)
     rw [set_same HV.out.1, ← HINS.out.1, ← setLev_succ HV.out.2.1] at hput
     refine ⟨i + 1, us, true, by go_num, rfl, by omega, hput, (O2.out.trans0 OD.out).trans O3.out (fun c hc => ?_), XD.out.only O3.out ?_, HU.out⟩
     ·rw [List.mem_singleton.1 hc]
      exact hbv.imp (fun h => List.mem_cons_of_mem _ h) Nat.le_of_lt
     ·have := LD.out.lt
      simp
      intro e
      rcases hbv with h | h
      ·have := H.out.lt b (List.mem_cons_of_mem _ h)
       omega
      ·omega
    case measure => simp only [intOf]; omega
   ·have HKK := hq9 hk
    rw [Bool.not_eq_true] at hk
    rw [hk] at hf
    clear hk
    have HF := hq9 hf
    clear hf
    repeat (go_big_quiet_step (fail))
    go_big_quiet_step (exact Calls.later (HF.out _))
    repeat (go_big_quiet_step (fail))
    refine wpQuiet_nil ?_
    intro _ hw'
    obtain ⟨p, hw''⟩ := hw'
    subst hw''
    have opw := p.only
    generalize p.w = w2 at *
    have O2 := hq9 (ON.out.trans0 opw)
    have L2 := hq9 (HL.out.only opw (by simp))
    have X2 := hq9 (HX.out.only opw (by simp))
    have R2 := hq9 (HR.out.only0 opw)
    clear hl hl1 opw
    have hins := ins_new (x := x) (L := L) (by simpa using HKK.out)
    rw [← HAT.out] at hins
    have hatL : at_ ≤ L.length := by rw [HAT.out]; exact posOf_le L x.key
    have NB := hq9 (Blk.new w2 70 #[.string ⟨x.key.toArray⟩, .int .u64 x.id, .int .u64 x.ver, .int .i64 x.line, .int .i64 x.cls])
    have OA := hq9 (((Only.refl [] w2).alloc (.cells #[.string ⟨x.key.toArray⟩, .int .u64 x.id, .int .u64 x.ver, .int .i64 x.line, .int .i64 x.cls] 70)).drew)
    have hI := link_Insert v L x at_ w2.heap.size (w2.alloc (.cells #[.string ⟨x.key.toArray⟩, .int .u64 x.id, .int .u64 x.ver, .int .i64 x.line, .int .i64 x.cls] 70)).drew (R2.out.only0 OA.out) NB.out hatL (fun e => by have := R2.out.lt _ e; omega) (by have := HRI.out.2; omega)
    rw [← hins] at hI
    have HI := hq9 (hI.mono (R' := fun e w' => ∃ A5 n5 c5, e = .returned (.slice A5 n5 c5) ∧ RowS 70 5 w' (.slice A5 n5 c5) ((ins x L).map linkC) ∧ Only v.ownBlock.toList (w2.alloc (.cells #[.string ⟨x.key.toArray⟩, .int .u64 x.id, .int .u64 x.ver, .int .i64 x.line, .int .i64 x.cls] 70)).drew w' ∧ ((Value.slice A5 n5 c5).ownBlock = v.ownBlock ∨ (Value.slice A5 n5 c5).ownBlock = some (w2.alloc (.cells #[.string ⟨x.key.toArray⟩, .int .u64 x.id, .int .u64 x.ver, .int .i64 x.line, .int .i64 x.cls] 70)).drew.heap.size)) (by
     rintro e w' ⟨v5, rfl, r5, o5, l5⟩
     obtain ⟨A5, c5, rfl, _, _⟩ := r5.slice
     exact ⟨_, _, _, rfl, r5, o5, l5⟩))
    have c0 : w2.cell? ⟨g, i, none⟩ = some v := by rw [L2.out.head.cell]; simpa using HV.out.1
    have d0 : (w2.alloc (.cells #[.string ⟨x.key.toArray⟩, .int .u64 x.id, .int .u64 x.ver, .int .i64 x.line, .int .i64 x.cls] 70)).drew.cell? ⟨g, i, none⟩ = some v := by rw [(L2.out.head.only OA.out (by simp)).cell]; simpa using HV.out.1
    have f0 : w2.drew.frozen? ⟨g, i, none⟩ = false := L2.out.head.frozen i
    have f1 : (w2.alloc (.cells #[.string ⟨x.key.toArray⟩, .int .u64 x.id, .int .u64 x.ver, .int .i64 x.line, .int .i64 x.cls] 70)).drew.frozen? ⟨g, i, none⟩ = false := (L2.out.head.only OA.out (by simp)).frozen i
    have FACT := hq9 (show ∀ w5, Only v.ownBlock.toList (w2.alloc (.cells #[.string ⟨x.key.toArray⟩, .int .u64 x.id, .int .u64 x.ver, .int .i64 x.line, .int .i64 x.cls] 70)).drew w5 → LevAt w5 g us (setLev i x Ls) ∨ True → (w5.cell? ⟨g, i, none⟩ = some v ∧ w5.frozen? ⟨g, i, none⟩ = false ∧ w5.cell? ⟨w.heap.size, 0, none⟩ = some (.string ⟨x.key.toArray⟩) ∧ w5.cell? ⟨w.heap.size, 1, none⟩ = some (.int .u64 x.id) ∧ w5.cell? ⟨w.heap.size, 2, none⟩ = some (.int .u64 x.ver) ∧ w5.cell? ⟨w.heap.size, 3, none⟩ = some (.int .i64 x.line) ∧ w5.cell? ⟨w.heap.size, 4, none⟩ = some (.int .i64 x.cls)) from fun w5 o5 _ => by
     have hown : ∀ b ∈ v.ownBlock.toList, b ∈ ownsOf us := fun b hb => List.mem_flatMap.2 ⟨v, List.mem_of_getElem? HV.out.1, hb⟩
     have hg5 : g ∉ v.ownBlock.toList := fun h => (List.nodup_cons.1 L2.out.nodup).1 (hown g h)
     have hw5 : w.heap.size ∉ v.ownBlock.toList := fun h => by
      rcases HU.out _ (hown _ h) with h | h
      ·have := H.out.lt _ (List.mem_cons_of_mem _ h)
       omega
      ·omega
     have hh := (L2.out.head.only OA.out (by simp)).only o5 hg5
     have hxx := (X2.out.only OA.out (by simp)).only o5 hw5
     exact ⟨by rw [hh.cell]; simpa using HV.out.1, hh.frozen i, hxx.cell 0, hxx.cell 1, hxx.cell 2, hxx.cell 3, hxx.cell 4⟩)
    have END := hq9 (show ∀ w5 A5 n5 c5, RowS 70 5 w5 (.slice A5 n5 c5) ((ins x L).map linkC) → Only v.ownBlock.toList (w2.alloc (.cells #[.string ⟨x.key.toArray⟩, .int .u64 x.id, .int .u64 x.ver, .int .i64 x.line, .int .i64 x.cls] 70)).drew w5 → ((Value.slice A5 n5 c5).ownBlock = v.ownBlock ∨ (Value.slice A5 n5 c5).ownBlock = some (w2.alloc (.cells #[.string ⟨x.key.toArray⟩, .int .u64 x.id, .int .u64 x.ver, .int .i64 x.line, .int .i64 x.cls] 70)).drew.heap.size) →
      ∃ us', LevAt (w5.setCell ⟨g, i, none⟩ (.slice A5 n5 c5)) g us' (setLev (i + 1) x Ls) ∧ Only (g :: ownsOf vs) w (w5.setCell ⟨g, i, none⟩ (.slice A5 n5 c5)) ∧ Blk (w5.setCell ⟨g, i, none⟩ (.slice A5 n5 c5)) w.heap.size 70 #[.string ⟨x.key.toArray⟩, .int .u64 x.id, .int .u64 x.ver, .int .i64 x.line, .int .i64 x.cls] ∧ (∀ c ∈ ownsOf us', c ∈ ownsOf vs ∨ w.heap.size < c) from fun w5 A5 n5 c5 r5 o5 l5 => by
     have sz : (w2.alloc (.cells #[.string ⟨x.key.toArray⟩, .int .u64 x.id, .int .u64 x.ver, .int .i64 x.line, .int .i64 x.cls] 70)).drew.heap.size = w2.heap.size + 1 := by simp
     rw [sz] at l5
     have hown : ∀ b ∈ v.ownBlock.toList, b ∈ ownsOf us := fun b hb => List.mem_flatMap.2 ⟨v, List.mem_of_getElem? HV.out.1, hb⟩
     have hg5 : g ∉ v.ownBlock.toList := fun h => (List.nodup_cons.1 L2.out.nodup).1 (hown g h)
     have hgl := H.out.head.lt
     have hw5 : w.heap.size ∉ v.ownBlock.toList := fun h => by
      rcases HU.out _ (hown _ h) with h | h
      ·have := H.out.lt _ (List.mem_cons_of_mem _ h)
       omega
      ·omega
     have hsz := O2.out.size
     have hx2 := X2.out.lt
     have hnew : ∀ b ∈ (Value.slice A5 n5 c5).ownBlock.toList, b ∈ v.ownBlock.toList ∨ w2.heap.size ≤ b := fun b hb => by
      rcases l5 with h | h
      ·rw [h] at hb; exact .inl hb
      ·rw [h] at hb
       simp at hb
       omega
     have hg2 := L2.out.head.lt
     have hgn : ∀ b, (Value.slice A5 n5 c5).ownBlock = some b → b ≠ g := fun b hb e => by
      rcases hnew b (by rw [hb]; simp) with h | h
      ·rw [e] at h; exact hg5 h
      ·omega
     have os := (Only.refl [g] w5).setCell (p := ⟨g, i, none⟩) (.inl (by simp)) (.slice A5 n5 c5)
     have hB := ((L2.out.head.only OA.out (by simp)).only o5 hg5).set i (.slice A5 n5 c5)
     have ho5 : Only (g :: v.ownBlock.toList) w2 (w5.setCell ⟨g, i, none⟩ (.slice A5 n5 c5)) := ((OA.out.mono (T := g :: v.ownBlock.toList) (by simp)).trans o5 (fun b hb => .inl (List.mem_cons_of_mem _ hb))).trans os (fun b hb => .inl (by rw [List.mem_singleton.1 hb]; simp))
     have hput := L2.out.put (v' := .slice A5 n5 c5) (L' := ins x L) HV.out.1 (by simpa using hB) ho5 (r5.only os (fun b hb => by simp; exact hgn b hb)) hnew
     rw [← setLev_succ HV.out.2.1] at hput
     refine ⟨_, hput, O2.out.trans ho5 (fun b hb => ?_), X2.out.only ho5 ?_, fun c hc => ?_⟩
     ·rcases List.mem_cons.1 hb with rfl | hb
      ·exact .inl (by simp)
      ·exact (HU.out b (hown b hb)).imp (fun h => List.mem_cons_of_mem _ h) Nat.le_of_lt
     ·rw [List.mem_cons]
      exact fun h => h.elim (fun h => by omega) hw5
     ·rcases owns_set HV.out.1 hc with h | h
      ·exact HU.out c h
      ·rcases hnew c h with h | h
       ·exact HU.out c (hown c h)
       ·exact .inr (by omega))
    have x2 := X2.out
    have xa := X2.out.only OA.out (by simp)
    have b0 := x2.cell 0
    have b1 := x2.cell 1
    have b2 := x2.cell 2
    have b3 := x2.cell 3
    have b4 := x2.cell 4
    have a0 := xa.cell 0
    have a1 := xa.cell 1
    have a2 := xa.cell 2
    have a3 := xa.cell 3
    have a4 := xa.cell 4
    go_wp2_with fail
    go_region_with
     (first
      | (go_at_call 298; refine HI.out.mono ?_; rintro e w5 ⟨A5, n5, c5, rfl, r5, o5, l5⟩; obtain ⟨s0, s1, s2, s3, s4, s5, s6⟩ := FACT.out w5 o5 (.inr trivial); have R5 := hq9 r5; have O5 := hq9 o5; have L5 := hq9 l5; clear r5 o5 l5))
    all_goals
     obtain ⟨us', e1, e2, e3, e4⟩ := END.out w5 A5 n5 c5 R5.out O5.out L5.out
     have E := hq9 (And.intro e1 (And.intro e2 (And.intro e3 e4)))
     clear e1 e2 e3 e4
     go_wp2
     go_roundw
     case rel => exact ⟨i + 1, us', false, by go_num, rfl, by omega, E.out.1, E.out.2.1, E.out.2.2.1, E.out.2.2.2⟩
     case measure => simp only [intOf]; omega
  ·have q1 : decide ((i : Int) < (m : Int)) = false := by go_num
   have ei : i = m := by omega
   subst ei
   go_wp2
   go_ret
   exact ⟨bb, us, rfl, HL.out, ON.out, fun c hc => (HU.out c hc).imp id Nat.le_of_lt⟩
end Go.Proofs.YtlggichakafkiaaGreat
namespace Go.Proofs.FuClk
open Go.RowKit Go.Proofs.FuMem
structure Clk where
 now : Int
 durable : Int
 phase : Nat
 owed : List Int
 noted : List Bool
 left : List Bool
def Clk.closing (C : Clk) : Int := if C.phase = 0 then 0 else C.now - 1
structure Clk.Ok (C : Clk) : Prop where
 noted : C.noted.length = 258
 left : C.left.length = 258
 owed1 : 1 ≤ C.owed.length
 owed4 : C.owed.length ≤ 4
 phase : C.phase ≤ 4
 lo : 0 ≤ C.durable
 hi : C.now < 18446744073709551616
 idle : C.phase = 0 → C.now = C.durable + 1
 busy : C.phase ≠ 0 → C.now = C.durable + 2
 done : C.phase ≠ 1 → C.left = List.replicate 258 false
def newClk (n : Nat) (d : Int) : Clk := ⟨d + 1, d, 0, List.replicate n 0, List.replicate 258 false, List.replicate 258 false⟩
theorem newClk_ok {n : Nat} {d : Int} (h1 : 1 ≤ n) (h2 : n ≤ 4) (h3 : 0 ≤ d) (h4 : d ≤ 1152921504606846976) : (newClk n d).Ok where
 noted := List.length_replicate
 left := List.length_replicate
 owed1 := by show 1 ≤ (List.replicate n (0 : Int)).length; simpa using h1
 owed4 := by show (List.replicate n (0 : Int)).length ≤ 4; simpa using h2
 phase := by show 0 ≤ 4; omega
 lo := h3
 hi := by show d + 1 < _; omega
 idle := fun _ => rfl
 busy := fun h => absurd rfl h
 done := fun _ => rfl
def stepV (f1 f2 f3 f4 : Nat) (g : Nat) : Nat → Value
 | 0 => .nilFunc
 | 1 => .func (.func f1) #[.pointer (some ⟨g, 0, none⟩)] #[]
 | 2 => .func (.func f2) #[.pointer (some ⟨g, 0, none⟩)] #[]
 | 3 => .func (.func f3) #[.pointer (some ⟨g, 0, none⟩)] #[]
 | _ => .func (.func f4) #[.pointer (some ⟨g, 0, none⟩)] #[]
def bools (l : List Bool) : List Value := l.map Value.bool
def raw (a b c s : Value) (N L : List Bool) (v : Value) : Array Value := (a :: b :: c :: s :: (bools N ++ (bools L ++ [v]))).toArray
section
variable {a b c s v x : Value} {N L : List Bool}
theorem raw_noted (hN : N.length = 258) {i : Nat} (hi : i < 258) {y : Bool} : (raw a b c s N L v).setIfInBounds (4 + i) (.bool y) = raw a b c s (N.set i y) L v := by
 rw [Nat.add_comm 4 i]
 simp [raw, bools, hN, hi]
end
def restOf (v : Value) (C : Clk) : List Value := bools C.noted ++ (bools C.left ++ [v])
def cellsOf (ob : Nat) (v : Value) (C : Clk) : List Value :=
 .int .u64 C.now :: .int .u64 C.durable :: .int .u64 C.closing :: .slice (some ⟨ob, 0, none⟩) C.owed.length C.owed.length :: restOf v C
theorem restOf_at1 {v : Value} {C : Clk} (h : C.noted.length = 258) {i : Nat} (hi : i < 258) : (restOf v C)[i]? = C.noted[i]?.map Value.bool := by
 unfold restOf bools
 rw [List.getElem?_append_left (by simpa [h] using hi), List.getElem?_map]
theorem cellsOf_raw (ob : Nat) (v : Value) (C : Clk) : (cellsOf ob v C).toArray = raw (.int .u64 C.now) (.int .u64 C.durable) (.int .u64 C.closing) (.slice (some ⟨ob, 0, none⟩) C.owed.length C.owed.length) C.noted C.left v := rfl
structure IsClk (tC tI : TypeId) (f1 f2 f3 f4 : Nat) (w : World) (g ob : Nat) (C : Clk) : Prop where
 head : Blk w g tC (cellsOf ob (stepV f1 f2 f3 f4 g C.phase) C).toArray
 row : Blk w ob tI (C.owed.map (Value.int .i64)).toArray
 ne : g ≠ ob
 ok : C.Ok
section
variable {tC tI : TypeId} {f1 f2 f3 f4 : Nat} {w w' : World} {S : List Nat} {g ob : Nat} {C : Clk}
theorem IsClk.only (h : IsClk tC tI f1 f2 f3 f4 w g ob C) (ho : Only S w w') (h1 : g ∉ S) (h2 : ob ∉ S) : IsClk tC tI f1 f2 f3 f4 w' g ob C :=
 ⟨h.head.only ho h1, h.row.only ho h2, h.ne, h.ok⟩
theorem IsClk.lt1 (h : IsClk tC tI f1 f2 f3 f4 w g ob C) : g < w.heap.size := h.head.lt
theorem IsClk.lt2 (h : IsClk tC tI f1 f2 f3 f4 w g ob C) : ob < w.heap.size := h.row.lt
theorem IsClk.now (h : IsClk tC tI f1 f2 f3 f4 w g ob C) : w.cell? ⟨g, 0, none⟩ = some (.int .u64 C.now) := by rw [h.head.cell]; rfl
theorem IsClk.owe (h : IsClk tC tI f1 f2 f3 f4 w g ob C) : w.cell? ⟨g, 3, none⟩ = some (.slice (some ⟨ob, 0, none⟩) C.owed.length C.owed.length) := by rw [h.head.cell]; rfl
theorem IsClk.notedCell (h : IsClk tC tI f1 f2 f3 f4 w g ob C) {i : Nat} (hi : i < 258) : w.cell? ⟨g, 4 + i, none⟩ = some (.bool (C.noted[i]'(by rw [h.ok.noted]; exact hi))) := by
 rw [h.head.cell]
 have := restOf_at1 (v := stepV f1 f2 f3 f4 g C.phase) h.ok.noted hi
 rw [List.getElem?_eq_getElem (l := C.noted) (by rw [h.ok.noted]; exact hi)] at this
 rw [Nat.add_comm]
 simpa [cellsOf] using this
theorem IsClk.owedCell (h : IsClk tC tI f1 f2 f3 f4 w g ob C) {i : Nat} (hi : i < C.owed.length) : w.cell? ⟨ob, i, none⟩ = some (.int .i64 C.owed[i]) := by
 rw [h.row.cell]; simp [hi]
theorem IsClk.fr1 (h : IsClk tC tI f1 f2 f3 f4 w g ob C) (k : Nat) : w.frozen? ⟨g, k, none⟩ = false := h.head.frozen k
theorem IsClk.fr2 (h : IsClk tC tI f1 f2 f3 f4 w g ob C) (k : Nat) : w.frozen? ⟨ob, k, none⟩ = false := h.row.frozen k
theorem IsClk.is (h : IsClk tC tI f1 f2 f3 f4 w g ob C) : Is w (some ⟨ob, 0, none⟩) C.owed.length C.owed :=
 Sl.of_blk h.row 0 (by rw [List.drop_zero, List.take_of_length_le (by simp)]) (by simp)
section
variable {P : Program} {ops : Array Oper} {rest : List Oper} {o : Oper} {a : Act} {Q : Exit → Act → World → Prop}
end
end
/-! ### what it does -/
def noteC (C : Clk) (t i : Nat) : Clk := { C with owed := C.owed.set t (wrap64 (C.owed.getD t 0 + 1)), noted := C.noted.set i true }
theorem noteC_ok {C : Clk} (h : C.Ok) (t i : Nat) : (noteC C t i).Ok :=
 {noted := by show (C.noted.set i true).length = 258; rw [List.length_set]; exact h.noted
  left := h.left
  owed1 := by show 1 ≤ (C.owed.set t _).length; rw [List.length_set]; exact h.owed1
  owed4 := by show (C.owed.set t _).length ≤ 4; rw [List.length_set]; exact h.owed4
  phase := h.phase, lo := h.lo, hi := h.hi, idle := h.idle, busy := h.busy, done := h.done }
end Go.Proofs.FuClk
namespace Go.Proofs.YtlggichakafkiaaGreat
open Go.RowKit Go.Proofs.FuMem Go.Proofs.FuClk
set_option maxRecDepth 100000
theorem uint64_Load (g k : Nat) (x : Int) (w : World) (hc : w.cell? ⟨g, k, none⟩ = some (.int .u64 x)) :
  Calls Tryz.prog 125 #[.pointer (some ⟨g, k, none⟩)] w fun e w' => e = .returned (.int .u64 x) ∧ w = w' := by
 have hl := run_call_load (P := Tryz.prog) Tryz.func167 (by kernel_rfl) (by kernel_rfl) (by kernel_rfl) .u64 (by kernel_rfl) hc
 go_enter Tryz.func125, Tryz.ntmps125
 go_wp2
 go_ret
 exact ⟨rfl, rfl⟩
theorem uint64_Store (g k : Nat) (u : Value) (x : Int) (w : World) (hc : w.cell? ⟨g, k, none⟩ = some u) (hf : w.frozen? ⟨g, k, none⟩ = false) :
  Calls Tryz.prog 173 #[.pointer (some ⟨g, k, none⟩), .int .u64 x] w fun e w' => e = .returned (.tuple #[]) ∧ w.setCell ⟨g, k, none⟩ (.int .u64 x) = w' := by
 have hs := run_call_store (P := Tryz.prog) Tryz.func205 (by kernel_rfl) (by kernel_rfl) (by kernel_rfl) (by kernel_rfl) (k := .u64) (y := x) hc hf
 go_enter Tryz.func173, Tryz.ntmps173
 go_wp2
 go_end0
 exact ⟨rfl, rfl⟩
theorem uint64_Cas_hit (g k : Nat) (x y : Int) (w : World) (hc : w.cell? ⟨g, k, none⟩ = some (.int .u64 x)) (hf : w.frozen? ⟨g, k, none⟩ = false) :
  Calls Tryz.prog 281 #[.pointer (some ⟨g, k, none⟩), .int .u64 x, .int .u64 y] w fun e w' => e = .returned (.bool true) ∧ w.setCell ⟨g, k, none⟩ (.int .u64 y) = w' := by
 have hs := run_call_cas_hit (P := Tryz.prog) Tryz.func336 (by kernel_rfl) (by kernel_rfl) (by kernel_rfl) .u64 (by kernel_rfl) (y := y) hc hf
 go_enter Tryz.func281, Tryz.ntmps281
 go_wp2
 go_ret
 exact ⟨rfl, rfl⟩
abbrev ClkAt (w : World) (g ob : Nat) (C : Clk) : Prop := IsClk 245 3 282 337 375 402 w g ob C
theorem clk_zero : Tryz.zeroCells245 = #[.int .u64 0, .int .u64 0, .int .u64 0, .slice none 0 0] ++ (Array.replicate 516 (.bool false)).push .nilFunc := by
 kernel_rfl
theorem zero_cells (ob n : Nat) (l : List Int) (hl : l.length = n) : Tryz.zeroCells245.setIfInBounds 3 (.slice (some ⟨ob, 0, none⟩) n n) = (cellsOf ob .nilFunc ⟨0, 0, 0, l, List.replicate 258 false, List.replicate 258 false⟩).toArray := by
 rw [clk_zero]
 apply Array.ext'
 subst hl
 simp [cellsOf, restOf, bools, Clk.closing]
theorem clk_New (n : Nat) (d : Int) (w : World) (h1 : 1 ≤ n) (h2 : n ≤ 4) (h3 : 0 ≤ d) (h4 : d ≤ 1152921504606846976) :
  Calls Tryz.prog 134 #[.int .i64 n, .int .u64 d] w fun e w' => ∃ g ob, e = .returned (.tuple #[.pointer (some ⟨g, 0, none⟩), .int .i64 0]) ∧ ClkAt w' g ob (newClk n d) ∧ Only [] w w' ∧ w.heap.size ≤ g ∧ w.heap.size ≤ ob := by
 obtain ⟨i0, hi, hz0, hz1, hz2⟩ := info_parts Tryz.intInfo
 obtain ⟨w1, hmk, hb1, ho1, hs1⟩ := make_blk (P := Tryz.prog) w 23 3 i0 _ Tryz.underlying23 hi hz0 hz1 rfl .i64 .i64 n n (by omega) (by rw [hz2]; omega) (by omega)
 obtain ⟨Z, hZ⟩ : ∃ Z : Array Value, Z = Tryz.zeroCells245.setIfInBounds 3 (.slice (some ⟨w.heap.size, 0, none⟩) n n) := ⟨_, rfl⟩
 have HZ := hq9 hZ
 rw [zero_cells w.heap.size n (List.replicate n 0) List.length_replicate] at hZ
 have q1 : decide ((n : Int) < 1) = false := by rw [decide_eq_false_iff_not]; omega
 have q2 : decide ((4 : Int) < (n : Int)) = false := by rw [decide_eq_false_iff_not]; omega
 have q3 : decide ((1152921504606846976 : Int) < d) = false := by rw [decide_eq_false_iff_not]; omega
 have hw : IntKind.u64.wrap (d + 1) = d + 1 := by rw [IntKind.wrap_u64]; omega
 have hBl := Blk.new w1 245 Z
 have on : Only [] w1 (w1.alloc (.cells Z 245)) := (Only.refl _ _).alloc _
 have hR := hb1.only on (by simp)
 rw [← List.toArray_replicate] at hR
 have HR : Hid (Blk (w1.alloc (.cells Z 245)) w.heap.size 3 ((List.replicate n (0 : Int)).map (Value.int .i64)).toArray) := hq9 (by rw [List.map_replicate]; exact hR)
 have HO := hq9 (ho1.trans0 on)
 have hs2 : w.heap.size < w1.heap.size := by omega
 rw [hZ] at hBl
 have hc1 := hBl.cell 1
 have hB2 := hBl.set 1 (.int .u64 d)
 have hB3 := hB2.set 0 (.int .u64 (d + 1))
 have hc0 := hB2.cell 0
 have hS1 := uint64_Store w1.heap.size 1 (.int .u64 0) d _ hc1 (hBl.frozen 1)
 have hS2 := uint64_Store w1.heap.size 0 (.int .u64 0) (d + 1) _ hc0 (hB2.frozen 0)
 have HS1 := hq9 hS1
 have HS2 := hq9 hS2
 have HB3 := hq9 hB3
 rw [← hZ] at HS1 HS2 HB3
 have HZ2 := hq9 hZ
 clear hS1 hS2 hB3 hB2 hBl hc1 hc0 hR ho1 hb1 hZ on hi hz0 hz1 hz2 hs1
 go_enter Tryz.func134, Tryz.ntmps134
 go_wp2_with fail
 rw [← HZ.out]
 have o4 : Only [w1.heap.size] (w1.alloc (.cells Z 245)) (((w1.alloc (.cells Z 245)).setCell ⟨w1.heap.size, 1, none⟩ (.int .u64 d)).setCell ⟨w1.heap.size, 0, none⟩ (.int .u64 (d + 1))) :=
  ((Only.refl _ _).setCell (.inl (by simp)) _).setCell (.inl (by simp)) _
 have O4 := hq9 o4
 clear o4
 generalize w1.alloc (.cells Z 245) = wa at *
 refine HS1.out.mono ?_
 rintro e w2 ⟨rfl, rfl⟩
 go_wp2_with fail
 refine HS2.out.mono ?_
 rintro e w3 ⟨rfl, rfl⟩
 go_wp2
 go_ret2
 have hO := HO.out
 have hR := HR.out
 have hB := HB3.out
 have o4 := O4.out
 refine ⟨w1.heap.size, w.heap.size, rfl, ⟨?_, ?_, by omega, newClk_ok h1 h2 h3 h4⟩, hO.trans o4 (by intro b hb; simp at hb; omega), by omega, Nat.le_refl _⟩
 ·have e : (((cellsOf w.heap.size .nilFunc ⟨0, 0, 0, List.replicate n 0, List.replicate 258 false, List.replicate 258 false⟩).toArray.setIfInBounds 1 (.int .u64 d)).setIfInBounds 0 (.int .u64 (d + 1))) = (cellsOf w.heap.size .nilFunc (newClk n d)).toArray := by
   apply Array.ext'
   simp [cellsOf, newClk, restOf, Clk.closing]
  rw [HZ2.out, e] at hB
  exact hB
 ·exact hR.only o4 (by simp; omega)
theorem clk_Now (g ob : Nat) (C : Clk) (w : World) (h : ClkAt w g ob C) :
  Calls Tryz.prog 84 #[.pointer (some ⟨g, 0, none⟩)] w fun e w' => e = .returned (.int .u64 C.now) ∧ w = w' := by
 have HL := hq9 (uint64_Load g 0 C.now w h.now)
 clear h
 go_enter Tryz.func84, Tryz.ntmps84
 go_wp2_with fail
 refine (HL.out).mono ?_
 rintro e w' ⟨rfl, rfl⟩
 go_wp2
 go_ret
 exact ⟨rfl, rfl⟩
end Go.Proofs.YtlggichakafkiaaGreat
namespace Go.Proofs.YtlggichakafkiaaGreat
open Go.RowKit Go.Proofs.FuMem Go.Proofs.FuClk
set_option maxRecDepth 100000
theorem uint64_Add (g k : Nat) (x y s : Int) (w : World) (hc : w.cell? ⟨g, k, none⟩ = some (.int .u64 x)) (hf : w.frozen? ⟨g, k, none⟩ = false) (hs : IntKind.u64.wrap (x + y) = s) :
  Calls Tryz.prog 338 #[.pointer (some ⟨g, k, none⟩), .int .u64 y] w fun e w' => e = .returned (.int .u64 s) ∧ w.setCell ⟨g, k, none⟩ (.int .u64 s) = w' := by
 have hadd := run_call_add (P := Tryz.prog) Tryz.func376 (by kernel_rfl) (by kernel_rfl) (by kernel_rfl) .u64 (by kernel_rfl) (y := y) (s := s) hc hf (by simp [go_sem, hs])
 go_enter Tryz.func338, Tryz.ntmps338
 go_wp2
 go_ret
 exact ⟨rfl, rfl⟩
theorem run_call_swap {P : Program} {f : FuncId} {fn : Func} (hf : P.funcs[f]? = some fn) (hname : (fn.name == "runtime.NumGoroutine") = false) (hb : fn.body.isNone = true) (hn : Extern.findNext fn = none) (k : IntKind)
  (he : Extern.find fn = some (Extern.Atomic.swapT (.int k))) {a : Addr} {x y : Int} {w : World} (hc : w.cell? a = some (.int k x)) (hz : w.frozen? a = false) :
  (callFunc f #[.pointer (some a), .int k y]).run P w = .ok (.value (.int k x)) (w.setCell a (.int k y)) := by
 rw [run_callFunc_extern hf hname hb hn he]
 change (Sem.run P (do
  let a' ← asAddr (.pointer (some a))
  let old ← Extern.Atomic.read (.int k) a'
  store a' (.int k y) .atomic
  pure old) w).andThen _ = _
 simp [Extern.Atomic.read, asAddr, hc, hz, run_store P w a (.int k y) .atomic rfl, Result.andThen]
theorem uint64_Swap (g k : Nat) (x y : Int) (w : World) (hc : w.cell? ⟨g, k, none⟩ = some (.int .u64 x)) (hf : w.frozen? ⟨g, k, none⟩ = false) :
  Calls Tryz.prog 399 #[.pointer (some ⟨g, k, none⟩), .int .u64 y] w fun e w' => e = .returned (.int .u64 x) ∧ w.setCell ⟨g, k, none⟩ (.int .u64 y) = w' := by
 have hs := run_call_swap (P := Tryz.prog) Tryz.func415 (by kernel_rfl) (by kernel_rfl) (by kernel_rfl) .u64 (by kernel_rfl) (y := y) hc hf
 go_enter Tryz.func399, Tryz.ntmps399
 go_wp2
 go_ret
 exact ⟨rfl, rfl⟩
structure RdrAt (w : World) (g hb : Nat) (now : Int) (has : List Int) : Prop where
 head : Blk w g 310 #[.int .u64 now, .slice (some ⟨hb, 0, none⟩) has.length has.length]
 row : Blk w hb 196 (has.map (Value.int .u64)).toArray
 ne : g ≠ hb
 n1 : 1 ≤ has.length
 n4 : has.length ≤ 4
section
variable {w w' : World} {g hb : Nat} {now : Int} {has : List Int} {S : List Nat}
theorem RdrAt.only (h : RdrAt w g hb now has) (ho : Only S w w') (h1 : g ∉ S) (h2 : hb ∉ S) : RdrAt w' g hb now has := ⟨h.head.only ho h1, h.row.only ho h2, h.ne, h.n1, h.n4⟩
theorem RdrAt.has_cell (h : RdrAt w g hb now has) {t : Nat} {x : Int} (hx : has[t]? = some x) : w.cell? ⟨hb, t, none⟩ = some (.int .u64 x) := by
 rw [h.row.cell t, List.getElem?_toArray, List.getElem?_map, hx]
 rfl
theorem RdrAt.put (h : RdrAt w g hb now has) (t : Nat) (y : Int) : RdrAt (w.setCell ⟨hb, t, none⟩ (.int .u64 y)) g hb now (has.set t y) where
 head := by
  rw [List.length_set]
  exact h.head.only ((Only.refl [hb] w).setCell (.inl (by simp)) _) (by simpa using h.ne)
 row := by
  have := h.row.set t (.int .u64 y)
  rw [List.setIfInBounds_toArray, ← List.map_set] at this
  exact this
 ne := h.ne
 n1 := by rw [List.length_set]; exact h.n1
 n4 := by rw [List.length_set]; exact h.n4
end
theorem rdr_Now (g hb : Nat) (now : Int) (has : List Int) (w : World) (h : RdrAt w g hb now has) :
  Calls Tryz.prog 343 #[.pointer (some ⟨g, 0, none⟩)] w fun e w' => e = .returned (.int .u64 now) ∧ w = w' := by
 have HL := hq9 (uint64_Load g 0 now w (h.head.cell 0))
 clear h
 go_enter Tryz.func343, Tryz.ntmps343
 go_wp2_with fail
 refine (HL.out).mono ?_
 rintro e w' ⟨rfl, rfl⟩
 go_wp2
 go_ret
 exact ⟨rfl, rfl⟩
theorem rdr_thread (g hb : Nat) (now : Int) (has : List Int) (t : Nat) (w : World) (h : RdrAt w g hb now has) (ht : t < has.length) :
  Calls Tryz.prog 385 #[.pointer (some ⟨g, 0, none⟩), .int .i64 t] w fun e w' => e = .returned (.pointer (some ⟨hb, t, none⟩)) ∧ Only [] w w' := by
 have h0 := h.head.cell 1
 have h4 := h.n4
 have q1 : decide ((t : Int) < 0) = false := by go_num
 have q2 : decide ((has.length : Int) ≤ (t : Int)) = false := by go_num
 clear h
 generalize has.length = n at *
 go_enter Tryz.func385, Tryz.ntmps385
 go_wp2
 go_ret
 exact ⟨rfl, Only.refl _ _⟩
theorem rdr_Enter (g hb : Nat) (now : Int) (has : List Int) (t : Nat) (w : World) (h : RdrAt w g hb now has) (ht : has[t]? = some 0) :
  Calls Tryz.prog 360 #[.pointer (some ⟨g, 0, none⟩), .int .i64 t] w fun e w' => e = .returned (.tuple #[.int .u64 now, .int .i64 0]) ∧ RdrAt w' g hb now (has.set t now) ∧ Only [hb] w w' := by
 have hlt : t < has.length := (List.getElem?_eq_some_iff.1 ht).1
 have HT := hq9 (rdr_thread g hb now has t w h hlt)
 have H := hq9 h
 have HC := hq9 ht
 clear h ht
 go_enter Tryz.func360, Tryz.ntmps360
 go_wp2_with fail
 refine (HT.out).mono ?_
 rintro e w1 ⟨rfl, o1⟩
 have R1 := hq9 (H.out.only o1 (by simp) (by simp))
 have O1 := hq9 (o1.mono (T := [hb]) (by simp))
 clear o1
 go_wp2_with fail
 refine (rdr_Now g hb now has w1 R1.out).mono ?_
 rintro e w' ⟨rfl, rfl⟩
 go_wp2_with fail
 refine (uint64_Cas_hit hb t 0 now w1 (R1.out.has_cell HC.out) (R1.out.row.frozen t)).mono ?_
 rintro e w' ⟨rfl, rfl⟩
 go_wp2
 go_ret2
 exact ⟨rfl, R1.out.put t now, O1.out.setCell (.inl (by simp)) _⟩
theorem rdr_Leave (g hb : Nat) (now : Int) (has : List Int) (t : Nat) (x : Int) (w : World) (h : RdrAt w g hb now has) (ht : has[t]? = some x) (hx : x ≠ 0) :
  Calls Tryz.prog 372 #[.pointer (some ⟨g, 0, none⟩), .int .i64 t] w fun e w' => e = .returned (.int .i64 0) ∧ RdrAt w' g hb now (has.set t 0) ∧ Only [hb] w w' := by
 have hlt : t < has.length := (List.getElem?_eq_some_iff.1 ht).1
 have HT := hq9 (rdr_thread g hb now has t w h hlt)
 have H := hq9 h
 have HC := hq9 ht
 have q : (x == 0) = false := by simpa using hx
 clear h ht hx
 go_enter Tryz.func372, Tryz.ntmps372
 go_wp2_with fail
 refine (HT.out).mono ?_
 rintro e w1 ⟨rfl, o1⟩
 have R1 := hq9 (H.out.only o1 (by simp) (by simp))
 have O1 := hq9 (o1.mono (T := [hb]) (by simp))
 clear o1
 go_wp2_with fail
 refine (uint64_Swap hb t x 0 w1 (R1.out.has_cell HC.out) (R1.out.row.frozen t)).mono ?_
 rintro e w' ⟨rfl, rfl⟩
 go_wp2
 go_ret
 exact ⟨rfl, R1.out.put t 0, O1.out.setCell (.inl (by simp)) _⟩
theorem rdr_New (n : Nat) (w : World) (h1 : 1 ≤ n) (h2 : n ≤ 4) :
  Calls Tryz.prog 133 #[.int .i64 n] w fun e w' => ∃ g hb, e = .returned (.tuple #[.pointer (some ⟨g, 0, none⟩), .int .i64 0]) ∧ RdrAt w' g hb 1 (List.replicate n 0) ∧ Only [] w w' ∧ w.heap.size ≤ g ∧ w.heap.size ≤ hb := by
 have q1 : decide ((n : Int) < 1) = false := by go_num
 have q2 : decide (4 < (n : Int)) = false := by go_num
 obtain ⟨w1, hr, hb1, o1, s1⟩ := make_rows (P := Tryz.prog) (w := w) 308 196 _ _ [.int .u64 0] Tryz.underlying308 rfl rfl rfl rfl (by decide) .i64 .i64 n n (Nat.le_refl _) (by show 8 * n ≤ _; omega) (by omega)
 have B1 := hq9 hb1
 have O1 := hq9 o1
 have S1 := hq9 s1
 clear hb1 o1 s1
 go_enter Tryz.func133, Tryz.ntmps133
 go_wp2_with fail
 have NB := hq9 (Blk.new w1 310 #[.int .u64 0, .slice (some ⟨w.heap.size, 0, none⟩) n n])
 refine (uint64_Store w1.heap.size 0 (.int .u64 0) 1 _ (NB.out.cell 0) (NB.out.frozen 0)).mono ?_
 rintro e w2 ⟨rfl, rfl⟩
 go_wp2
 go_ret2
 have hs := S1.out
 have hb := B1.out.only ((Only.refl [] w1).alloc (.cells #[.int .u64 1, .slice (some ⟨w.heap.size, 0, none⟩) n n] 310)) (by simp)
 rw [flatten_ones, ← List.map_replicate] at hb
 refine ⟨w1.heap.size, w.heap.size, rfl, ⟨?_, hb, by omega, by simpa using h1, by simpa using h2⟩, O1.out.alloc _, by omega, Nat.le_refl _⟩
 rw [List.length_replicate]
 exact Blk.new _ _ _
end Go.Proofs.YtlggichakafkiaaGreat
namespace Go.Proofs.FuPool
open Go.RowKit Go.Proofs.FuMem Go.Proofs.FuClass
def cellsOf (s : Slab) : List Value := .int .i64 s.cls :: (s.taken.map Value.bool ++ [.int .i64 s.n])
def rows (P : Pool) : List (List Value) := P.map cellsOf
def flat (P : Pool) : List Value := (rows P).flatten
theorem cellsOf_length {s : Slab} (h : s.taken.length = 8) : (cellsOf s).length = 10 := by simp [cellsOf, h]
section
variable {α : Type}
theorem flatten_get10 {L : List (List α)} (h : ∀ x ∈ L, x.length = 10) {i o : Nat} (hi : i < L.length) (ho : o < 10) : L.flatten[i * 10 + o]? = (L[i])[o]? := by
 induction L generalizing i with
 | nil => simp at hi
 | cons a L ih =>
  have ha := h a (List.mem_cons_self ..)
  have hr := fun x hx => h x (List.mem_cons_of_mem _ hx)
  rw [List.flatten_cons]
  cases i with
  | zero => rw [List.getElem?_append_left (by omega)]; simp
  | succ i =>
   rw [List.getElem?_append_right (by omega), ha, show (i + 1) * 10 + o - 10 = i * 10 + o by omega, ih hr (by simpa using hi)]
   rfl
theorem flatten_set10 {L : List (List α)} (h : ∀ x ∈ L, x.length = 10) {i o : Nat} (ho : o < 10) (v : α) : L.flatten.set (i * 10 + o) v = (L.modify i (·.set o v)).flatten := by
 induction L generalizing i with
 | nil => simp
 | cons a L ih =>
  have ha := h a (List.mem_cons_self ..)
  have hr := fun x hx => h x (List.mem_cons_of_mem _ hx)
  rw [List.flatten_cons]
  cases i with
  | zero => rw [List.set_append_left _ _ (by omega)]; simp
  | succ i =>
   rw [List.set_append_right _ _ (by omega), ha, show (i + 1) * 10 + o - 10 = i * 10 + o by omega, ih hr]
   simp
theorem modify_rows {P : Pool} {i : Nat} {s : Slab} (hs : P[i]? = some s) {f : Slab → Slab} {F : List Value → List Value} (e : F (cellsOf s) = cellsOf (f s)) : (rows P).modify i F = rows (P.modify i f) := by
 unfold rows
 apply List.ext_getElem?
 intro j
 rw [List.getElem?_modify, List.getElem?_map, List.getElem?_map, List.getElem?_modify]
 by_cases hj : i = j
 ·subst hj
  rw [hs]
  simp [e]
 ·simp only [if_neg hj]
  cases P[j]? <;> simp
end
structure IsPool (tP tS : TypeId) (w : World) (g sb : Nat) (P : Pool) : Prop where
 head : Blk w g tP #[.slice (some ⟨sb, 0, none⟩) P.length P.length]
 body : Blk w sb tS (flat P).toArray
 ne : g ≠ sb
 n1 : 1 ≤ P.length
 n32 : P.length ≤ 32
 len : ∀ s ∈ P, s.taken.length = 8
section
variable {tP tS : TypeId} {w w' : World} {g sb : Nat} {P : Pool} {S : List Nat}
theorem rows_len (h : ∀ s ∈ P, s.taken.length = 8) : ∀ x ∈ rows P, x.length = 10 := by
 intro x hx
 obtain ⟨s, hs, rfl⟩ := List.mem_map.1 hx
 exact cellsOf_length (h s hs)
theorem IsPool.only (h : IsPool tP tS w g sb P) (ho : Only S w w') (h1 : g ∉ S) (h2 : sb ∉ S) : IsPool tP tS w' g sb P :=
 ⟨h.head.only ho h1, h.body.only ho h2, h.ne, h.n1, h.n32, h.len⟩
theorem IsPool.only0 (h : IsPool tP tS w g sb P) (ho : Only [] w w') : IsPool tP tS w' g sb P := h.only ho (by simp) (by simp)
theorem IsPool.headCell (h : IsPool tP tS w g sb P) : w.cell? ⟨g, 0, none⟩ = some (.slice (some ⟨sb, 0, none⟩) P.length P.length) := h.head.cell 0
theorem IsPool.cell (h : IsPool tP tS w g sb P) {i : Nat} {s : Slab} (hs : P[i]? = some s) {o : Nat} (ho : o < 10) : w.cell? ⟨sb, i * 10 + o, none⟩ = (cellsOf s)[o]? := by
 obtain ⟨hi, rfl⟩ := List.getElem?_eq_some_iff.1 hs
 rw [h.body.cell, List.getElem?_toArray]
 unfold flat
 rw [flatten_get10 (rows_len h.len) (by simpa [rows] using hi) ho]
 simp [rows]
theorem IsPool.cls (h : IsPool tP tS w g sb P) {i : Nat} {s : Slab} (hs : P[i]? = some s) : w.cell? ⟨sb, i * 10, none⟩ = some (.int .i64 s.cls) := h.cell hs (o := 0) (by omega)
theorem IsPool.mark (h : IsPool tP tS w g sb P) {i : Nat} {s : Slab} (hs : P[i]? = some s) {k : Nat} (hk : k < 8) : w.cell? ⟨sb, i * 10 + 1 + k, none⟩ = some (.bool (s.at k)) := by
 have hl := h.len s (List.mem_of_getElem? hs)
 rw [show i * 10 + 1 + k = i * 10 + (1 + k) by omega, h.cell hs (by omega), show 1 + k = k + 1 by omega]
 unfold cellsOf Slab.at
 rw [List.getElem?_cons_succ, List.getElem?_append_left (by simp; omega), List.getElem?_map, List.getElem?_eq_getElem (by omega)]
 simp [List.getD, List.getElem?_eq_getElem (show k < s.taken.length by omega)]
theorem IsPool.cnt (h : IsPool tP tS w g sb P) {i : Nat} {s : Slab} (hs : P[i]? = some s) : w.cell? ⟨sb, i * 10 + 9, none⟩ = some (.int .i64 s.n) := by
 have hl := h.len s (List.mem_of_getElem? hs)
 rw [h.cell hs (by omega)]
 unfold cellsOf
 rw [List.getElem?_cons_succ, List.getElem?_append_right (by simp; omega)]
 simp [hl]
theorem IsPool.frozen (h : IsPool tP tS w g sb P) (k : Nat) : w.frozen? ⟨sb, k, none⟩ = false := h.body.frozen k
theorem IsPool.ltg (h : IsPool tP tS w g sb P) : g < w.heap.size := h.head.lt
theorem IsPool.lts (h : IsPool tP tS w g sb P) : sb < w.heap.size := h.body.lt
theorem n_le {s : Slab} (h : s.taken.length = 8) : s.n ≤ 8 := by
 unfold Slab.n
 have := List.count_le_length (a := true) (l := s.taken)
 omega
theorem set_toArray10 (l : List Value) (k : Nat) (v : Value) : l.toArray.setIfInBounds k v = (l.set k v).toArray := by simp
theorem IsPool.turn3 (h : IsPool tP tS w g sb P) {i : Nat} {s : Slab} (hs : P[i]? = some s) {o1 o2 o3 : Nat} (h1 : o1 < 10) (h2 : o2 < 10) (h3 : o3 < 10) (v1 v2 v3 : Value) {f : Slab → Slab} (hf : ((cellsOf s).set o1 v1 |>.set o2 v2 |>.set o3 v3) = cellsOf (f s)) (hl : (f s).taken.length = 8) :
  IsPool tP tS (((w.setCell ⟨sb, i * 10 + o1, none⟩ v1).setCell ⟨sb, i * 10 + o2, none⟩ v2).setCell ⟨sb, i * 10 + o3, none⟩ v3) g sb (P.modify i f) ∧ Only [sb] w (((w.setCell ⟨sb, i * 10 + o1, none⟩ v1).setCell ⟨sb, i * 10 + o2, none⟩ v2).setCell ⟨sb, i * 10 + o3, none⟩ v3) := by
 have hon : Only [sb] w (((w.setCell ⟨sb, i * 10 + o1, none⟩ v1).setCell ⟨sb, i * 10 + o2, none⟩ v2).setCell ⟨sb, i * 10 + o3, none⟩ v3) :=
  (((Only.refl _ _).setCell (.inl (by simp)) _).setCell (.inl (by simp)) _).setCell (.inl (by simp)) _
 have hb := ((h.body.set (i * 10 + o1) v1).set (i * 10 + o2) v2).set (i * 10 + o3) v3
 have r0 := rows_len h.len
 have rm : ∀ (L : List (List Value)) (o : Nat) (v : Value), (∀ x ∈ L, x.length = 10) → ∀ x ∈ L.modify i (·.set o v), x.length = 10 := fun L o v hL x hx => by
  obtain ⟨j, hj, e⟩ := List.getElem_of_mem hx
  rw [List.getElem_modify] at e
  split at e
  ·rw [← e, List.length_set]
   exact hL _ (List.getElem_mem _)
  ·rw [← e]
   exact hL _ (List.getElem_mem _)
 rw [set_toArray10, set_toArray10, set_toArray10] at hb
 have he : (((flat P).set (i * 10 + o1) v1).set (i * 10 + o2) v2).set (i * 10 + o3) v3 = flat (P.modify i f) := by
  unfold flat
  rw [flatten_set10 r0 h1, flatten_set10 (rm _ _ _ r0) h2, flatten_set10 (rm _ _ _ (rm _ _ _ r0)) h3, List.modify_modify_eq, List.modify_modify_eq]
  rw [modify_rows hs (f := f) (F := _) hf]
 rw [he] at hb
 refine ⟨⟨?_, hb, h.ne, by simpa using h.n1, by simpa using h.n32, ?_⟩, hon⟩
 ·have := h.head.only hon (by simpa using h.ne)
  simpa using this
 ·intro x hx
  obtain ⟨j, hj, e⟩ := List.getElem_of_mem hx
  rw [List.getElem_modify] at e
  split at e
  ·rename_i hij
   subst hij
   obtain ⟨hi, rfl⟩ := List.getElem?_eq_some_iff.1 hs
   rw [← e]
   exact hl
  ·rw [← e]
   exact h.len _ (List.getElem_mem _)
theorem IsPool.turn1 (h : IsPool tP tS w g sb P) {i : Nat} {s : Slab} (hs : P[i]? = some s) {o1 : Nat} (h1 : o1 < 10) (v1 : Value) {f : Slab → Slab} (hf : (cellsOf s).set o1 v1 = cellsOf (f s)) (hl : (f s).taken.length = 8) :
  IsPool tP tS (w.setCell ⟨sb, i * 10 + o1, none⟩ v1) g sb (P.modify i f) ∧ Only [sb] w (w.setCell ⟨sb, i * 10 + o1, none⟩ v1) := by
 have hon : Only [sb] w (w.setCell ⟨sb, i * 10 + o1, none⟩ v1) :=
  (Only.refl _ _).setCell (.inl (by simp)) _
 have hb := h.body.set (i * 10 + o1) v1
 have r0 := rows_len h.len
 rw [set_toArray10] at hb
 have he : (flat P).set (i * 10 + o1) v1 = flat (P.modify i f) := by
  unfold flat
  rw [flatten_set10 r0 h1]
  rw [modify_rows hs (f := f) (F := _) hf]
 rw [he] at hb
 refine ⟨⟨?_, hb, h.ne, by simpa using h.n1, by simpa using h.n32, ?_⟩, hon⟩
 ·have := h.head.only hon (by simpa using h.ne)
  simpa using this
 ·intro x hx
  obtain ⟨j, hj, e⟩ := List.getElem_of_mem hx
  rw [List.getElem_modify] at e
  split at e
  ·rename_i hij
   subst hij
   obtain ⟨hi, rfl⟩ := List.getElem?_eq_some_iff.1 hs
   rw [← e]
   exact hl
  ·rw [← e]
   exact h.len _ (List.getElem_mem _)
end
end Go.Proofs.FuPool
namespace Go.Proofs.YtlggichakafkiaaGreat
open Go.RowKit Go.Proofs.FuMem Go.Proofs.FuClass Go.Proofs.FuPool
set_option maxRecDepth 100000
abbrev PoolAt (w : World) (g sb : Nat) (P : Pool) : Prop := IsPool 313 305 w g sb P
theorem pool_all (g sb : Nat) (P : Pool) (w : World) (h : PoolAt w g sb P) :
  Calls Tryz.prog 169 #[.pointer (some ⟨g, 0, none⟩)] w fun e w' => e = .returned (.slice (some ⟨sb, 0, none⟩) P.length P.length) ∧ w = w' := by
 have x0 := h.headCell
 clear h
 go_enter Tryz.func169, Tryz.ntmps169
 go_wp2
 go_ret
 exact ⟨rfl, rfl⟩
theorem take_cells {s : Slab} (hl : s.taken.length = 8) (c : Int) {k : Nat} (hk : k < 8) (hf : s.at k = false) : ((cellsOf s).set 0 (.int .i64 c) |>.set (1 + k) (.bool true) |>.set 9 (.int .i64 ((s.n : Int) + 1))) = cellsOf (s.take c k) := by
 have hn : (s.take c k).n = s.n + 1 := count_set_true (taken_false hl hk hf)
 unfold cellsOf
 rw [hn, show 1 + k = k + 1 by omega]
 show (Value.int .i64 c) :: (((s.taken.map Value.bool ++ [Value.int .i64 s.n]).set k (.bool true)).set 8 (Value.int .i64 ((s.n : Int) + 1))) = _
 rw [List.set_append_left _ _ (by simp; omega), List.set_append_right _ _ (by simp; omega)]
 simp [hl, Slab.take, List.map_set]
theorem slab_take (g sb : Nat) (P : Pool) (i k : Nat) (c : Int) (s : Slab) (w : World) (h : PoolAt w g sb P) (hs : P[i]? = some s) (hk : k < 8) (hf : s.at k = false) :
  Calls Tryz.prog 294 #[.pointer (some ⟨sb, i * 10, none⟩), .int .i64 c, .int .i64 k] w fun e w' => e = .returned (.tuple #[]) ∧ PoolAt w' g sb (P.modify i fun s => s.take c k) ∧ Only [sb] w w' := by
 have hl := h.len s (List.mem_of_getElem? hs)
 have x0 := h.cls hs
 have x1 := h.mark hs hk
 have x9 := h.cnt hs
 have f0 := h.frozen (i * 10)
 have f1 := h.frozen (i * 10 + 1 + k)
 have f9 := h.frozen (i * 10 + 9)
 have hnn := n_le hl
 have HT := hq9 (h.turn3 hs (o1 := 0) (o2 := 1 + k) (o3 := 9) (by omega) (by omega) (by omega) (.int .i64 c) (.bool true) (.int .i64 ((s.n : Int) + 1)) (f := fun s => s.take c k) (take_cells hl c hk hf) (by simpa [Slab.take] using hl))
 rw [Nat.add_zero, ← Nat.add_assoc] at HT
 have y1 : (0 : Int) ≤ (k : Int) := by omega
 have y2 : (k : Int) < 8 := by omega
 generalize s.n = m at *
 generalize s.at k = b at *
 have ne1 : ¬ i * 10 = i * 10 + 1 + k := by omega
 have ne2 : ¬ i * 10 = i * 10 + 9 := by omega
 have ne3 : ¬ i * 10 + 1 + k = i * 10 + 9 := by omega
 clear h hs hl hf
 go_enter Tryz.func294, Tryz.ntmps294
 go_wp2
 go_end0
 exact ⟨rfl, HT.out⟩
def freeI (s : Slab) : Int := match s.free with | some k => (k : Int) | none => -1
theorem slab_free (g sb : Nat) (P : Pool) (i : Nat) (s : Slab) (w : World) (h : PoolAt w g sb P) (hs : P[i]? = some s) (hc : 0 ≤ s.cls ∧ s.cls ≤ 3) :
  Calls Tryz.prog 412 #[.pointer (some ⟨sb, i * 10, none⟩)] w fun e w' => e = .returned (.int .i64 (freeI s)) ∧ w = w' := by
 have x0 := h.cls hs
 have HM := hq9 (fun k (hk : k < 8) => h.mark hs hk)
 have HC := hq9 (fun w => class_Span s.cls w (by omega))
 have hm := many_span hc
 have hq0 : (8 : Int) / ((span s.cls : Nat) : Int) = ((many s.cls : Nat) : Int) := by unfold many; simp
 have HQ := hq9 hq0
 have HFS := hq9 (fun k (h1 : k < many s.cls) (h2 : s.at k = false) (h3 : ∀ j, j < k → s.at j = true) => show freeI s = (k : Int) by
  unfold freeI Slab.free
  rw [show (List.range (many s.cls)).find? (fun k => !s.at k) = some k from by
   rw [List.find?_range_eq_some]
   exact ⟨by simpa using h2, List.mem_range.2 h1, fun j hj => by simpa using h3 j hj⟩])
 have HFN := hq9 (fun (h3 : ∀ j, j < many s.cls → s.at j = true) => show freeI s = -1 by
  unfold freeI Slab.free
  rw [show (List.range (many s.cls)).find? (fun k => !s.at k) = none from by
   rw [List.find?_eq_none]
   intro x hx
   simpa using h3 x (List.mem_range.1 hx)])
 have d0 : ((span s.cls : Int) == 0) = false := by simp; omega
 have d1 : ¬ (span s.cls : Int) = 0 := by omega
 generalize s.cls = cl at *
 generalize many cl = m at *
 generalize span cl = sp at *
 clear h hs hq0 hc
 go_enter Tryz.func412, Tryz.ntmps412
 go_wp2_with fail
 refine (HC.out _).mono ?_
 rintro e w' ⟨rfl, rfl⟩
 go_wp2
 rw [HQ.out]
 go_loop [3, 10] (fun _ kv => ∃ j : Nat, j ≤ m ∧ kv = .int .i64 j ∧ ∀ k, k < j → s.at k = true) (fun _ kv => m - (intOf kv).toNat)
 case atStart => exact ⟨0, by omega, rfl, fun k hk => by omega⟩
 case round =>
  obtain ⟨j, hj, rfl, hall⟩ := hrel
  have HALL := hq9 hall
  clear hall
  by_cases hlt : j < m
  ·have y1 : (0 : Int) ≤ (j : Int) := by omega
   have y2 : (j : Int) < 8 := by omega
   have y3 : decide ((j : Int) < (m : Int)) = true := by rw [decide_eq_true_eq]; omega
   have xm := HM.out j (by omega)
   by_cases ht : s.at j = true
   ·rw [ht] at xm
    go_wp2
    go_round
    ·exact ⟨j + 1, by omega, by simp, fun k hk => by
      by_cases e : k = j
      ·rw [e]; exact ht
      ·exact HALL.out k (by omega)⟩
    ·simp [intOf]
     omega
   ·have hf : s.at j = false := by simpa using ht
    rw [hf] at xm
    have HR := hq9 (HFS.out j hlt hf HALL.out)
    clear ht hf
    go_wp2
    go_ret
    exact ⟨by rw [HR.out]; rfl, rfl⟩
  ·obtain rfl : j = m := by omega
   have y3 : decide ((j : Int) < (j : Int)) = false := by simp
   have HR := hq9 (HFN.out HALL.out)
   go_wp2
   go_ret
   exact ⟨by rw [HR.out]; rfl, rfl⟩
def findV (P : Pool) (c : Int) : Value := match find P c with | some (i, k) => .tuple #[.int .i64 i, .int .i64 k, .bool true] | none => .tuple #[.int .i64 0, .int .i64 0, .bool false]
theorem findSome_range {α : Type} (f : Nat → Option α) {n j : Nat} {x : α} (hj : j < n) (h0 : ∀ i, i < j → f i = none) (hx : f j = some x) : (List.range n).findSome? f = some x := by
 obtain ⟨m, rfl⟩ : ∃ m, n = j + (m + 1) := ⟨n - j - 1, by omega⟩
 rw [List.range_add, List.findSome?_append]
 have e1 : (List.range j).findSome? f = none := by
  rw [List.findSome?_eq_none_iff]
  intro y hy
  exact h0 y (List.mem_range.1 hy)
 rw [e1, List.range_succ_eq_map]
 simp [hx]
theorem pool_find (g sb : Nat) (P : Pool) (c : Int) (w : World) (h : PoolAt w g sb P) (hc : 0 ≤ c ∧ c ≤ 3) :
  Calls Tryz.prog 389 #[.pointer (some ⟨g, 0, none⟩), .int .i64 c] w fun e w' => e = .returned (findV P c) ∧ w = w' := by
 have HA := hq9 (pool_all g sb P w h)
 have x0 := h.headCell
 have HK := hq9 (fun i s (hs : P[i]? = some s) => h.cls hs)
 have HF := hq9 (fun i s (hs : P[i]? = some s) (hcc : 0 ≤ s.cls ∧ s.cls ≤ 3) => slab_free g sb P i s w h hs hcc)
 have HIN := hq9 (fun (i k : Nat) (hi : i < P.length) (h0 : ∀ j, j < i → (P[j]?).bind (room? c) = none) (hx : (P[i]?).bind (room? c) = some k) => show findV P c = .tuple #[.int .i64 i, .int .i64 k, .bool true] by
  have e : findIn P c = some (i, k) := findSome_range _ hi (fun j hj => by simp only [h0 j hj]; rfl) (by simp only [hx]; rfl)
  unfold findV find
  rw [e]
  rfl)
 have HNO := hq9 (fun (h0 : ∀ j, j < P.length → (P[j]?).bind (room? c) = none) => show findIn P c = none by
  unfold findIn
  rw [List.findSome?_eq_none_iff]
  intro j hj
  simp only [h0 j (List.mem_range.1 hj)]
  rfl)
 have HWH := hq9 (fun (i : Nat) (hn : findIn P c = none) (hi : i < P.length) (h0 : ∀ j, j < i → (P[j]?).map Slab.cls ≠ some (-1)) (hx : (P[i]?).map Slab.cls = some (-1)) => show findV P c = .tuple #[.int .i64 i, .int .i64 0, .bool true] by
  have e : findWhole P = some i := by
   unfold findWhole
   rw [List.find?_range_eq_some]
   exact ⟨by simpa using hx, List.mem_range.2 hi, fun j hj => by simpa using h0 j hj⟩
  unfold findV find
  rw [hn, e]
  rfl)
 have HNN := hq9 (fun (hn : findIn P c = none) (h0 : ∀ j, j < P.length → (P[j]?).map Slab.cls ≠ some (-1)) => show findV P c = .tuple #[.int .i64 0, .int .i64 0, .bool false] by
  have e : findWhole P = none := by
   unfold findWhole
   rw [List.find?_eq_none]
   intro j hj
   simpa using h0 j (List.mem_range.1 hj)
  unfold findV find
  rw [hn, e]
  rfl)
 have hn32 := h.n32
 have hn1 := h.n1
 have HGET := hq9 (fun i (hi : i < P.length) => (⟨P[i], List.getElem?_eq_getElem hi⟩ : ∃ s, P[i]? = some s))
 clear h
 generalize hN : P.length = n at *
 clear hN
 go_enter Tryz.func389, Tryz.ntmps389
 go_wp2_with fail
 refine (HA.out).mono ?_
 rintro e w' ⟨rfl, rfl⟩
 go_wp2
 go_loop [7, 8, 9, 14] (fun _ _ _ kv => ∃ j : Nat, j ≤ n ∧ kv = .int .i64 j ∧ ∀ i, i < j → (P[i]?).bind (room? c) = none) (fun _ _ _ kv => n - (intOf kv).toNat)
 case atStart => exact ⟨0, by omega, rfl, fun k hk => by omega⟩
 case round =>
  obtain ⟨j, hj, rfl, hall⟩ := hrel
  have HALL := hq9 hall
  clear hall
  by_cases hlt : j < n
  ·have y1 : (0 : Int) ≤ (j : Int) := by omega
   have y2 : (j : Int) < (n : Int) := by omega
   have y3 : decide ((j : Int) < (n : Int)) = true := by rw [decide_eq_true_eq]; omega
   obtain ⟨s, hs⟩ := HGET.out j hlt
   have xc := HK.out j s hs
   have HS := hq9 hs
   clear hs
   by_cases hcc : s.cls = c
   ·have HFR := hq9 (HF.out j s HS.out (by omega))
    have HRM : Hid ((P[j]?).bind (room? c) = s.free) := hq9 (by rw [HS.out]; simp [room?, hcc])
    have q1 : (s.cls == c) = true := by simpa using hcc
    have HCC := hq9 hcc
    clear hcc
    by_cases hfr : freeI s = -1
    ·have hnone : s.free = none := by
      unfold freeI at hfr
      split at hfr
      ·omega
      ·assumption
     have HRN := hq9 (HRM.out.trans hnone)
     rw [hfr] at HFR
     clear hnone hfr
     go_wp2_with fail
     refine HFR.out.mono ?_
     rintro e w' ⟨rfl, rfl⟩
     go_wp2
     go_round
     ·exact ⟨j + 1, by omega, by simp, fun i hi => by
       by_cases e : i = j
       ·rw [e]; exact HRN.out
       ·exact HALL.out i (by omega)⟩
     ·simp [intOf]
      omega
    ·obtain ⟨k, hk, hk2⟩ : ∃ k : Nat, s.free = some k ∧ freeI s = (k : Int) := by
      unfold freeI at hfr ⊢
      split at hfr
      ·rename_i k hk
       exact ⟨k, hk, rfl⟩
      ·omega
     have HRS := hq9 (HIN.out j k hlt HALL.out (HRM.out.trans hk))
     rw [hk2] at HFR
     have q2 : ((k : Int) != -1) = true := by rw [bne_iff_ne]; omega
     clear hfr hk hk2
     go_wp2_with fail
     refine HFR.out.mono ?_
     rintro e w' ⟨rfl, rfl⟩
     go_wp2
     go_ret3
     exact ⟨by rw [HRS.out]; rfl, rfl⟩
   ·have q1 : (s.cls == c) = false := by simpa using hcc
    have HRN : Hid ((P[j]?).bind (room? c) = none) := hq9 (by rw [HS.out]; simp [room?, hcc])
    clear hcc
    go_wp2
    go_round
    ·exact ⟨j + 1, by omega, by simp, fun i hi => by
      by_cases e : i = j
      ·rw [e]; exact HRN.out
      ·exact HALL.out i (by omega)⟩
    ·simp [intOf]
     omega
  ·obtain rfl : j = n := by omega
   have y3 : decide ((j : Int) < (j : Int)) = false := by simp
   have HN := hq9 (HNO.out HALL.out)
   go_wp2_with fail
   refine (HA.out).mono ?_
   rintro e w' ⟨rfl, rfl⟩
   go_wp2
   go_loop [10, 39] (fun _ kv => ∃ i : Nat, i ≤ j ∧ kv = .int .i64 i ∧ ∀ k, k < i → (P[k]?).map Slab.cls ≠ some (-1)) (fun _ kv => j - (intOf kv).toNat)
   case atStart => exact ⟨0, by omega, rfl, fun k hk => by omega⟩
   case round =>
    obtain ⟨i, hi, rfl, hall⟩ := hrel
    have HAL2 := hq9 hall
    clear hall
    by_cases hlt2 : i < j
    ·have z1 : (0 : Int) ≤ (i : Int) := by omega
     have z2 : (i : Int) < (j : Int) := by omega
     have z3 : decide ((i : Int) < (j : Int)) = true := by rw [decide_eq_true_eq]; omega
     obtain ⟨s, hs⟩ := HGET.out i hlt2
     have xc := HK.out i s hs
     by_cases hw : s.cls = -1
     ·have HRS := hq9 (HWH.out i HN.out hlt2 HAL2.out (by rw [hs]; simp [hw]))
      have q1 : (s.cls == -1) = true := by simpa using hw
      rw [hw] at xc
      clear hs hw
      go_wp2
      go_ret3
      exact ⟨by rw [HRS.out]; rfl, rfl⟩
     ·have q1 : (s.cls == -1) = false := by simpa using hw
      have HNE : Hid ((P[i]?).map Slab.cls ≠ some (-1)) := hq9 (by rw [hs]; simpa using hw)
      clear hs hw
      go_wp2
      go_round
      ·exact ⟨i + 1, by omega, by simp, fun k hk => by
        by_cases e : k = i
        ·rw [e]; exact HNE.out
        ·exact HAL2.out k (by omega)⟩
      ·simp [intOf]
       omega
    ·obtain rfl : i = j := by omega
     have z3 : decide ((i : Int) < (i : Int)) = false := by simp
     have HRS := hq9 (HNN.out HN.out HAL2.out)
     go_wp2
     go_ret3
     exact ⟨by rw [HRS.out]; rfl, rfl⟩
end Go.Proofs.YtlggichakafkiaaGreat
namespace Go.Proofs.FuPool
open Go.Proofs.FuClass
theorem find_some {P : Pool} (hP : Ok P) {c : Int} (hc : 0 ≤ c ∧ c ≤ 3) {i k : Nat} (h : find P c = some (i, k)) : ∃ s, P[i]? = some s ∧ (s.cls = -1 ∨ s.cls = c) ∧ k < many c ∧ s.at k = false := by
 have hm := many_span hc
 unfold find at h
 cases hf : findIn P c with
 | some x =>
  rw [hf] at h
  rw [Option.some_or] at h
  cases h
  obtain ⟨j, _, hj⟩ := List.exists_of_findSome?_eq_some hf
  rw [Option.map_eq_some_iff] at hj
  obtain ⟨k', hb, he⟩ := hj
  cases he
  rw [Option.bind_eq_some_iff] at hb
  obtain ⟨s, hs, hr⟩ := hb
  unfold room? at hr
  split at hr
  ·rename_i hcc
   obtain ⟨h1, h2, _⟩ := free_some hr
   rw [hcc] at h1
   exact ⟨s, hs, .inr hcc, h1, h2⟩
  ·cases hr
 | none =>
  rw [hf, Option.none_or, Option.map_eq_some_iff] at h
  obtain ⟨j, hj, he⟩ := h
  cases he
  unfold findWhole at hj
  have := List.find?_some hj
  rw [decide_eq_true_eq, Option.map_eq_some_iff] at this
  obtain ⟨s, hs, hcl⟩ := this
  have ho := hP s (List.mem_of_getElem? hs)
  have hn : s.n = 0 := by
   have := ho.busy
   omega
  exact ⟨s, hs, .inl hcl, by omega, n_zero hn 0⟩
theorem mem_modify {l : List Slab} {i : Nat} {f : Slab → Slab} {x : Slab} (h : x ∈ l.modify i f) : x ∈ l ∨ ∃ s, l[i]? = some s ∧ x = f s := by
 obtain ⟨j, hj, e⟩ := List.getElem_of_mem h
 rw [List.getElem_modify] at e
 split at e
 ·rename_i hij
  subst hij
  rw [List.length_modify] at hj
  exact .inr ⟨_, List.getElem?_eq_getElem hj, e.symm⟩
 ·rw [← e]
  exact .inl (List.getElem_mem _)
theorem takeP_ok {P : Pool} (hP : Ok P) {c : Int} : Ok (takeP P c) := by
 unfold takeP
 split
 ·exact hP
 ·rename_i h0
  have hc : 0 ≤ c ∧ c ≤ 3 := by have := span_cases c; omega
  split
  ·exact hP
  ·rename_i i k hf
   obtain ⟨s, hs, h1, h2, h3⟩ := find_some hP hc hf
   intro x hx
   rcases mem_modify hx with hx | ⟨s', hs', rfl⟩
   ·exact hP x hx
   ·rw [hs] at hs'
    cases hs'
    exact take_ok (hP s (List.mem_of_getElem? hs)) hc h2 h3 h1
theorem blockAt_some {P : Pool} (hl : P.length ≤ 32) {line : Int} {i k : Nat} (h : blockAt P line = some (i, k)) : ∃ s, P[i]? = some s ∧ s.at k = true ∧ line = lineAt i k s.cls ∧ k < many s.cls ∧ 0 ≤ s.cls ∧ s.cls ≤ 3 ∧ slabOf line = i := by
 unfold blockAt at h
 split at h
 ·cases h
 ·rename_i h0
  split at h
  ·cases h
  ·rename_i s hs
   have hi : (slabOf line).toNat < P.length := (List.getElem?_eq_some_iff.1 hs).1
   have e1 : slabOf line = ((slabOf line).toNat : Int) := by omega
   split at h
   ·cases h
   ·rename_i h1
    split at h
    ·rename_i h2
     cases h
     rw [e1] at h1
     obtain ⟨k, hk, hk2, hk3, hk4⟩ := idx_mem (by omega) (Int.not_lt.1 h1)
     rw [e1, hk2] at h2
     refine ⟨s, hs, ?_, ?_, ?_, hk4.1, hk4.2, e1⟩
     ·rw [e1, hk2]; exact h2
     ·rw [e1, hk2]
      exact hk3
     ·rw [e1, hk2]
      exact hk
    ·cases h
theorem home_some {line c : Int} (h : home line c = true) : ∃ i k : Nat, i < 32 ∧ slabOf line = i ∧ k < many c ∧ line = lineAt i k c ∧ 0 ≤ c ∧ c ≤ 3 ∧ idx (starts (slabOf line) c) line = k := by
 unfold home at h
 have h0 := h
 rw [decide_eq_true_eq] at h
 have hb := slabOf_bd line
 have hn : 0 ≤ slabOf line := by
  by_cases hn : 0 ≤ slabOf line
  ·exact hn
  ·exfalso
   have : starts (slabOf line) c = [] := by
    unfold starts
    rw [if_pos (.inr (by unfold slab; rw [if_pos (.inl (by omega))]; omega))]
   rw [this] at h
   cases h
 have e1 : slabOf line = ((slabOf line).toNat : Int) := by omega
 have h1 : 0 ≤ idx (starts (slabOf line) c) line := by
  have := idx_nonneg (starts (slabOf line) c) line
  rw [h0] at this
  simpa using this
 rw [e1] at h1
 obtain ⟨k, hk, hk2, hk3, hk4⟩ := idx_mem (by omega) h1
 exact ⟨(slabOf line).toNat, k, by omega, e1, hk, hk3, hk4.1, hk4.2, by rw [e1]; exact hk2⟩
theorem markP_some {P : Pool} {line c : Int} (h : markA P line c = 0) : ∃ (i k : Nat) (s : Slab), P[i]? = some s ∧ slabOf line = i ∧ (s.cls = -1 ∨ s.cls = c) ∧ s.at k = false ∧ k < many c ∧ 0 ≤ c ∧ c ≤ 3 ∧ line = lineAt i k c ∧ idx (starts (slabOf line) c) line = k ∧ markP P line c = P.modify i fun s => s.take c k := by
 have h0 := h
 unfold markA at h
 split at h
 ·cases h
 ·rename_i h1
  rw [not_or] at h1
  obtain ⟨i, k, hi, e1, hk, hl, c0, c3, e2⟩ := home_some (line := line) (c := c) (by simpa using h1.1)
  split at h
  ·cases h
  ·rename_i s hs
   split at h
   ·cases h
   ·rename_i h2
    rw [not_or] at h2
    refine ⟨i, k, s, by rw [e1] at hs; exact hs, e1, ?_, ?_, hk, c0, c3, hl, e2, ?_⟩
    ·omega
    ·rw [e2] at h2
     simpa using h2.2
    ·unfold markP
     rw [if_pos h0, e1, ← e1, e2, e1]
     rfl
theorem markP_ok {P : Pool} (hP : Ok P) (line c : Int) : Ok (markP P line c) := by
 by_cases h : markA P line c = 0
 ·obtain ⟨i, k, s, hs, _, h1, h2, h3, h4, h5, _, _, e⟩ := markP_some h
  rw [e]
  intro x hx
  rcases mem_modify hx with hx | ⟨s', hs', rfl⟩
  ·exact hP x hx
  ·rw [hs] at hs'
   cases hs'
   exact take_ok (hP s (List.mem_of_getElem? hs)) ⟨h4, h5⟩ h3 h2 h1
 ·unfold markP
  rw [if_neg h]
  exact hP
end Go.Proofs.FuPool
namespace Go.Proofs.YtlggichakafkiaaGreat
open Go.RowKit Go.Proofs.FuMem Go.Proofs.FuClass
set_option maxRecDepth 100000
theorem geom_Slab (k : Int) (w : World) :
  Calls Tryz.prog 132 #[.int .i64 k] w fun e w' => e = .returned (.int .i64 (slab k)) ∧ w = w' := by
 by_cases h1 : k < 0
 ·rw [show slab k = -1 from if_pos (.inl h1)]
  go_enter Tryz.func132, Tryz.ntmps132
  go_wp2
  go_ret
  exact ⟨rfl, rfl⟩
 ·by_cases h2 : 31 < k
  ·rw [show slab k = -1 from if_pos (.inr h2)]
   have h3 : 32 ≤ k := by omega
   clear h2
   go_enter Tryz.func132, Tryz.ntmps132
   go_wp2
   go_ret
   exact ⟨rfl, rfl⟩
  ·rw [show slab k = 2 + 8 * k from if_neg (by omega)]
   have h3 : k < 32 := by omega
   clear h2
   go_enter Tryz.func132, Tryz.ntmps132
   go_wp2
   go_ret
   exact ⟨ret_int (by omega), rfl⟩
theorem geom_SlabOf (k : Int) (w : World) :
  Calls Tryz.prog 94 #[.int .i64 k] w fun e w' => e = .returned (.int .i64 (slabOf k)) ∧ w = w' := by
 by_cases h1 : k < 2
 ·rw [show slabOf k = -1 from if_pos (.inl h1)]
  go_enter Tryz.func94, Tryz.ntmps94
  go_wp2
  go_ret
  exact ⟨rfl, rfl⟩
 ·by_cases h2 : 258 ≤ k
  ·rw [show slabOf k = -1 from if_pos (.inr h2)]
   go_enter Tryz.func94, Tryz.ntmps94
   go_wp2
   go_ret
   exact ⟨rfl, rfl⟩
  ·rw [show slabOf k = (k - 2) / 8 from if_neg (by omega)]
   go_enter Tryz.func94, Tryz.ntmps94
   go_wp2
   go_ret
   exact ⟨ret_int (by omega), rfl⟩
theorem index_ints (A : Option Addr) (n c : Nat) (l : List Int) (v : Int) (w : World) (h : Is w A n l) (hn : n ≤ 1000000) :
  Calls Tryz.prog 120 #[.slice A n c, .int .i64 v] w fun e w' => e = .returned (.int .i64 (idx l v)) ∧ w = w' := by
 have hl := h.len
 have HL := hq9 hl
 have HX := hq9 h
 clear h hl
 go_enter Tryz.func120, Tryz.ntmps120
 go_wp2
 go_loop [5, 8] (fun _ i => ∃ k : Nat, k ≤ n ∧ i = .int .i64 k ∧ ∀ j, j < k → ∀ x, l[j]? = some x → x ≠ v) (fun _ i => n - (intOf i).toNat)
 case atStart => exact ⟨0, Nat.zero_le _, rfl, fun j hj => by omega⟩
 case round =>
  obtain ⟨k, hk, rfl, hno⟩ := hrel
  have HN := hq9 hno
  clear hno
  by_cases hlt : k < n
  ·obtain ⟨b, f, rfl, hc⟩ := HX.out.at_ (by omega)
   have hkl : k < l.length := by rw [HL.out]; exact hlt
   have hc1 := hc k hkl
   clear hc
   obtain ⟨x, hx⟩ : ∃ x, l[k]? = some x := ⟨_, List.getElem?_eq_getElem hkl⟩
   have hxe : l[k] = x := by
    rw [List.getElem?_eq_getElem hkl] at hx
    exact Option.some.inj hx
   rw [hxe] at hc1
   by_cases hv : x = v
   ·subst hv
    have HI := hq9 (idx_some hkl hxe (fun j hj => HN.out j hj _ (List.getElem?_eq_getElem (by omega))))
    clear hxe hx
    go_wp2
    go_ret
    exact ⟨ret_int HI.out.symm, rfl⟩
   ·have d1 : (v == x) = false := by rw [beq_eq_false_iff_ne]; exact fun e => hv e.symm
    have HV := hq9 hv
    have HX1 := hq9 hx
    clear hv hxe hx
    go_wp2
    go_round
    case rel =>
     refine ⟨k + 1, by omega, by go_num, fun j hj y hy => ?_⟩
     by_cases e : j = k
     ·rw [e, HX1.out] at hy
      rw [← Option.some.inj hy]
      exact HV.out
     ·exact HN.out j (by omega) y hy
    case measure => simp [intOf]; omega
  ·obtain rfl : k = n := by omega
   have hm : v ∉ l := by
    intro hm
    obtain ⟨j, hj, he⟩ := List.getElem_of_mem hm
    exact HN.out j (by rw [← HL.out]; exact hj) _ (List.getElem?_eq_getElem hj) he
   have HI := hq9 (idx_none hm)
   clear hm
   go_wp2
   go_ret
   exact ⟨ret_int HI.out.symm, rfl⟩
theorem contains_ints (A : Option Addr) (n c : Nat) (l : List Int) (v : Int) (w : World) (h : Is w A n l) (hn : n ≤ 1000000) :
  Calls Tryz.prog 75 #[.slice A n c, .int .i64 v] w fun e w' => e = .returned (.bool (decide (v ∈ l))) ∧ w = w' := by
 have HI := hq9 (index_ints A n c l v w h hn)
 have HE := hq9 (idx_nonneg l v)
 generalize idx l v = x at *
 clear h
 go_enter Tryz.func75, Tryz.ntmps75
 go_wp2_with fail
 refine (HI.out).mono ?_
 rintro e w' ⟨rfl, rfl⟩
 go_wp2
 go_ret
 exact ⟨ret_bool HE.out, rfl⟩
theorem starts_next (f : Int) (s i : Nat) (x : Int) (hx : x = f + ((i * s : Nat) : Int)) : (startsTo f s i).map (Value.int .i64) ++ [.int .i64 x] = (startsTo f s (i + 1)).map (.int .i64) := by
 rw [startsTo_succ, List.map_append, hx]
 rfl
theorem class_Starts (k c : Int) (w : World) (h : -9223372036854775808 ≤ c ∧ c ≤ 9223372036854775807) :
  Calls Tryz.prog 95 #[.int .i64 k, .int .i64 c] w fun e w' => ∃ x, e = .returned x ∧ MadeI w (starts k c) x w' := by
 have HC := hq9 (class_Span c w h)
 have HS := hq9 (geom_Slab k w)
 have hs := span_le c
 have hb := slab_bd k
 by_cases hz : span c = 0 ∨ slab k < 0
 ·have he : starts k c = [] := if_pos hz
  rw [he]
  clear he
  by_cases h0 : span c = 0
  ·clear hz hs
   rw [h0] at HC
   clear h0
   generalize slab k = f at *
   go_enter Tryz.func95, Tryz.ntmps95
   go_wp2_with fail
   refine (HC.out).mono ?_
   rintro e w' ⟨rfl, rfl⟩
   go_wp2_with fail
   refine (HS.out).mono ?_
   rintro e w' ⟨rfl, rfl⟩
   go_wp2
   go_ret
   exact ⟨_, rfl, madeI_nil _⟩
  ·have h1 : slab k < 0 := by omega
   have d0 : ((span c : Int) == 0) = false := by simp; omega
   clear hz h0
   generalize slab k = f at *
   generalize span c = s at *
   go_enter Tryz.func95, Tryz.ntmps95
   go_wp2_with fail
   refine (HC.out).mono ?_
   rintro e w' ⟨rfl, rfl⟩
   go_wp2_with fail
   refine (HS.out).mono ?_
   rintro e w' ⟨rfl, rfl⟩
   go_wp2
   go_ret
   exact ⟨_, rfl, madeI_nil _⟩
 ·have he : starts k c = startsTo (slab k) (span c) (8 / span c) := if_neg hz
  rw [he]
  have h1 : 0 ≤ slab k := by omega
  have h2 : 0 < span c := by omega
  have d0 : ((span c : Int) == 0) = false := by simp; omega
  clear hz he
  generalize slab k = f at *
  generalize span c = s at *
  have hq : 8 / s ≤ 8 := Nat.div_le_self _ _
  obtain ⟨q, hqe⟩ : ∃ q, q = 8 / s := ⟨_, rfl⟩
  have hqs : q * s ≤ 8 := by rw [hqe]; exact Nat.div_mul_le_self _ _
  rw [← hqe]
  rw [← hqe] at hq
  have hqi : (8 : Int) / (s : Int) = (q : Int) := by rw [hqe]; simp
  have HQ := hq9 hqi
  clear hqe hqi
  obtain ⟨i0, hi, hz0, hz1, hz2⟩ := info_parts Tryz.intInfo
  have HI := hq9 hi
  have HZ0 := hq9 hz0
  have HZ1 := hq9 hz1
  have HZ2 := hq9 hz2
  clear hi hz0 hz1 hz2
  go_enter Tryz.func95, Tryz.ntmps95
  go_wp2_with fail
  refine (HC.out).mono ?_
  rintro e w' ⟨rfl, rfl⟩
  go_wp2_with fail
  refine (HS.out).mono ?_
  rintro e w' ⟨rfl, rfl⟩
  go_wp2
  rw [HQ.out]
  go_loopw [7, 8, 21] (fun x _ i wr => ∃ j : Nat, j ≤ q ∧ i = .int .i64 j ∧ wr.ownsRow w.heap.size 3 1 x j ((startsTo f s j).map (.int .i64)) ∧ Only [] w wr) (fun _ _ i _ => q - (intOf i).toNat)
  case atStart => exact ⟨0, Nat.zero_le _, rfl, own_nil _ _ _ _, Only.refl _ _⟩
  case round =>
   obtain ⟨j, hj, rfl, ho, on⟩ := hrel
   by_cases hlt : j < q
   ·have hjs : j * s ≤ 8 := Nat.le_trans (Nat.mul_le_mul_right s (Nat.le_of_lt hlt)) hqs
    have b1 : 0 ≤ (j : Int) * (s : Int) := Int.mul_nonneg (by omega) (by omega)
    have b2 : (j : Int) * (s : Int) ≤ 8 := by rw [← Int.natCast_mul]; omega
    have hnx := starts_next f s j (f + (j : Int) * (s : Int)) (by rw [Int.natCast_mul])
    obtain ⟨A', c', w', hr, ho2, hs2, on2⟩ := append_own (P := Tryz.prog) (wr.alloc (.cells #[.int .i64 (f + (j : Int) * (s : Int))] 3)) (on.alloc _) 23 23 3 i0 _ 8 Tryz.underlying23 HI.out HZ0.out HZ1.out HZ2.out rfl _ j _ (ho.alloc _) (some ⟨wr.heap.size, 0, none⟩) 1 1 [.int .i64 (f + (j : Int) * (s : Int))] (cell_new1 _ _ _) (ints_new1 _ _) (by unfold maxLen; omega) (by omega)
    rw [hnx] at ho2
    have H1 := hq9 ho2
    have H2 := hq9 on2
    clear ho on ho2 on2 hs2 hnx
    go_wp2_with (at_builtin; refine wpList_append_run _ rfl (.tmp 24) (.tmp 30) 23 rfl _ _ rfl rfl _ _ hr ?_)
    go_roundw
    case rel => exact ⟨j + 1, by omega, by go_num, H1.out, H2.out⟩
    case measure => simp [intOf]; omega
   ·obtain rfl : j = q := by omega
    obtain ⟨A', c', rfl, _, _⟩ := own_slice ho
    have H1 := hq9 ho
    have H2 := hq9 on
    clear ho on
    go_wp2
    go_ret
    exact ⟨.slice A' j c', rfl, madeI_own (startsTo_length _ _ _) H1.out H2.out⟩
theorem class_Home (line c : Int) (w : World) (h : -9223372036854775808 ≤ c ∧ c ≤ 9223372036854775807) :
  Calls Tryz.prog 236 #[.int .i64 line, .int .i64 c] w fun e w' => e = .returned (.bool (home line c)) ∧ Only [] w w' := by
 have HO := hq9 (geom_SlabOf line w)
 have HS := hq9 (class_Starts (slabOf line) c w h)
 have hl := starts_length (slabOf line) c
 unfold home
 generalize slabOf line = k at *
 generalize starts k c = l at *
 go_enter Tryz.func236, Tryz.ntmps236
 go_wp2_with fail
 refine (HO.out).mono ?_
 rintro e w' ⟨rfl, rfl⟩
 go_wp2_with fail
 refine (HS.out).mono ?_
 rintro e w1 ⟨_, rfl, A1, c1, rfl, m1, o1⟩
 have M1 := hq9 (is_own m1)
 have O1 := hq9 o1
 clear m1 o1
 go_wp2_with fail
 refine (contains_ints A1 _ c1 l line _ M1.out (by omega)).mono ?_
 rintro e w' ⟨rfl, rfl⟩
 go_wp2
 go_ret
 exact ⟨rfl, O1.out⟩
end Go.Proofs.YtlggichakafkiaaGreat
namespace Go.Proofs.YtlggichakafkiaaGreat
open Go.RowKit Go.Proofs.FuMem Go.Proofs.FuClass Go.Proofs.FuPool
set_option maxRecDepth 100000
theorem cls_bd {P : Pool} (hP : Ok P) {i : Nat} {s : Slab} (hs : P[i]? = some s) : -1 ≤ s.cls ∧ s.cls ≤ 3 := by
 have ho := hP s (List.mem_of_getElem? hs)
 by_cases h : s.n = 0
 ·have := ho.zero h
  omega
 ·have := ho.busy h
  omega
theorem slab_at {i : Nat} (hi : i < 32) : slab (i : Int) = 2 + 8 * (i : Int) := by unfold slab; rw [if_neg (by omega)]
theorem pool_Take (g sb : Nat) (P : Pool) (c : Int) (w : World) (h : PoolAt w g sb P) (hP : Ok P) (hc : -9223372036854775808 ≤ c ∧ c ≤ 9223372036854775807) :
  Calls Tryz.prog 363 #[.pointer (some ⟨g, 0, none⟩), .int .i64 c] w fun e w' => e = .returned (.tuple #[.int .i64 (takeA P c).1, .int .i64 (takeA P c).2]) ∧ PoolAt w' g sb (takeP P c) ∧ Only [sb] w w' := by
 have HSP := hq9 (fun w => class_Span c w hc)
 have hsc := span_cases c
 by_cases h0 : span c = 0
 ·have e1 : takeA P c = (0, 1) := if_pos h0
  have e2 : takeP P c = P := if_pos h0
  rw [e1, e2]
  have H := hq9 h
  rw [h0] at HSP
  clear h e1 e2 h0 hsc
  go_enter Tryz.func363, Tryz.ntmps363
  go_wp2_with fail
  refine (HSP.out _).mono ?_
  rintro e w' ⟨rfl, rfl⟩
  go_wp2
  go_ret2
  exact ⟨rfl, H.out, Only.refl _ _⟩
 have hc3 : 0 ≤ c ∧ c ≤ 3 := by omega
 have HF := hq9 (pool_find g sb P c w h hc3)
 have d0 : ((span c : Int) == 0) = false := by simp; omega
 have d1 : ¬ (span c : Int) = 0 := by omega
 cases hf : find P c with
 | none =>
  have e1 : takeA P c = (0, 4) := by unfold takeA; rw [if_neg h0, hf]
  have e2 : takeP P c = P := by unfold takeP; rw [if_neg h0, hf]
  have e3 : findV P c = .tuple #[.int .i64 0, .int .i64 0, .bool false] := by unfold findV; rw [hf]
  rw [e1, e2]
  rw [e3] at HF
  have H := hq9 h
  clear h e1 e2 e3 h0 hsc hf
  generalize span c = s at *
  go_enter Tryz.func363, Tryz.ntmps363
  go_wp2_with fail
  refine (HSP.out _).mono ?_
  rintro e w' ⟨rfl, rfl⟩
  go_wp2_with fail
  refine (HF.out).mono ?_
  rintro e w' ⟨rfl, rfl⟩
  go_wp2
  go_ret2
  exact ⟨rfl, H.out, Only.refl _ _⟩
 | some x =>
  obtain ⟨i, k⟩ := x
  obtain ⟨s, hs, h1, h2, h3⟩ := find_some hP hc3 hf
  have hm := many_span hc3
  have hi : i < P.length := (List.getElem?_eq_some_iff.1 hs).1
  have h32 := h.n32
  have e1 : takeA P c = (lineAt i k c, 0) := by unfold takeA; rw [if_neg h0, hf]
  have e2 : takeP P c = P.modify i fun s => s.take c k := by unfold takeP; rw [if_neg h0, hf]
  have e3 : findV P c = .tuple #[.int .i64 i, .int .i64 k, .bool true] := by unfold findV; rw [hf]
  rw [e1, e2]
  rw [e3] at HF
  have HT := hq9 (slab_take g sb P i k c s w h hs (by omega) h3)
  have HSL := hq9 (fun w => geom_Slab (i : Int) w)
  rw [slab_at (show i < 32 by omega)] at HSL
  have x0 := h.headCell
  have hb := lineAt_bd (i := i) hc3 h2
  have hln : lineAt i k c = 2 + 8 * (i : Int) + (k : Int) * (span c : Int) := by unfold lineAt; rw [Int.natCast_mul]
  have b1 : 0 ≤ (k : Int) * (span c : Int) := Int.mul_nonneg (by omega) (by omega)
  have b2 : (k : Int) * (span c : Int) ≤ 8 := by rw [hln] at hb; omega
  have HLN := hq9 hln
  have y1 : (0 : Int) ≤ (i : Int) := by omega
  have y2 : (i : Int) < (P.length : Int) := by omega
  generalize hQ : (P.modify i fun s => s.take c k) = Q at *
  clear h hs h1 h2 h3 e1 e2 e3 hf hQ hb hln hm hsc
  generalize hn : P.length = n at *
  clear hn
  generalize span c = sp at *
  go_enter Tryz.func363, Tryz.ntmps363
  go_wp2_with fail
  refine (HSP.out _).mono ?_
  rintro e w' ⟨rfl, rfl⟩
  go_wp2_with fail
  refine (HF.out).mono ?_
  rintro e w' ⟨rfl, rfl⟩
  go_wp2_with fail
  refine HT.out.mono ?_
  rintro e w2 ⟨rfl, p2, o2⟩
  have P2 := hq9 p2
  have O2 := hq9 o2
  clear p2 o2
  go_wp2_with fail
  refine (HSL.out _).mono ?_
  rintro e w' ⟨rfl, rfl⟩
  go_wp2_with fail
  refine (HSP.out _).mono ?_
  rintro e w' ⟨rfl, rfl⟩
  go_wp2
  go_ret2
  exact ⟨by rw [HLN.out]; rfl, P2.out, O2.out⟩
def AtIs (sb : Nat) (P : Pool) (line : Int) (x : Value) (y : Int) (b : Bool) : Prop := (blockAt P line = none ∧ b = false) ∨ ∃ i k : Nat, blockAt P line = some (i, k) ∧ b = true ∧ x = .pointer (some ⟨sb, i * 10, none⟩) ∧ y = k
theorem pool_at (g sb : Nat) (P : Pool) (line : Int) (w : World) (h : PoolAt w g sb P) (hP : Ok P) :
  Calls Tryz.prog 379 #[.pointer (some ⟨g, 0, none⟩), .int .i64 line] w fun e w' => ∃ x y b, e = .returned (.tuple #[x, .int .i64 y, .bool b]) ∧ AtIs sb P line x y b ∧ Only [] w w' := by
 have HSO := hq9 (fun w => geom_SlabOf line w)
 have hb := slabOf_bd line
 have h32 := h.n32
 by_cases h0 : slabOf line < 0
 ·have hbl : blockAt P line = none := if_pos h0
  have HB := hq9 hbl
  clear h hbl
  generalize slabOf line = i at *
  go_enter Tryz.func379, Tryz.ntmps379
  go_wp2_with fail
  refine (HSO.out _).mono ?_
  rintro e w' ⟨rfl, rfl⟩
  go_wp2
  go_ret3
  exact ⟨_, _, _, rfl, .inl ⟨HB.out, rfl⟩, Only.refl _ _⟩
 obtain ⟨i, hi⟩ : ∃ i : Nat, slabOf line = i := ⟨(slabOf line).toNat, by omega⟩
 have hbd : blockAt P line = match P[i]? with | none => none | some s => if idx (starts (i : Int) s.cls) line < 0 then none else if s.at (idx (starts (i : Int) s.cls) line).toNat = true then some (i, (idx (starts (i : Int) s.cls) line).toNat) else none := by
  unfold blockAt
  rw [if_neg h0, hi, Int.toNat_natCast]
  cases P[i]? <;> rfl
 have HA := hq9 (pool_all g sb P w h)
 rw [hi] at HSO
 by_cases hlt : i < P.length
 case neg =>
  have hbl : blockAt P line = none := by rw [hbd, List.getElem?_eq_none (by omega)]
  have HB := hq9 hbl
  have q1 : decide ((P.length : Int) ≤ (i : Int)) = true := by rw [decide_eq_true_eq]; omega
  have q2 : decide ((i : Int) < 0) = false := by rw [decide_eq_false_iff_not]; omega
  clear h hbl hbd hi h0 hb
  generalize P.length = n at *
  go_enter Tryz.func379, Tryz.ntmps379
  go_wp2_with fail
  refine (HSO.out _).mono ?_
  rintro e w' ⟨rfl, rfl⟩
  go_wp2_with fail
  refine (HA.out).mono ?_
  rintro e w' ⟨rfl, rfl⟩
  go_wp2
  go_ret3
  exact ⟨_, _, _, rfl, .inl ⟨HB.out, rfl⟩, Only.refl _ _⟩
 obtain ⟨s, hs⟩ : ∃ s, P[i]? = some s := ⟨_, List.getElem?_eq_getElem hlt⟩
 rw [hs] at hbd
 simp only at hbd
 have hcb := cls_bd hP hs
 have HST := hq9 (fun w => class_Starts (i : Int) s.cls w (by omega))
 have q1 : decide ((P.length : Int) ≤ (i : Int)) = false := by rw [decide_eq_false_iff_not]; omega
 have q2 : decide ((i : Int) < 0) = false := by rw [decide_eq_false_iff_not]; omega
 have x0 := h.headCell
 have xc := h.cls hs
 have HM := hq9 (fun k (hk : k < 8) => h.mark hs hk)
 have y1 : (0 : Int) ≤ (i : Int) := by omega
 have y2 : (i : Int) < (P.length : Int) := by omega
 have hsl := starts_length (i : Int) s.cls
 have hix := idx_bd (starts (i : Int) s.cls) line
 have HMEM := hq9 (fun (hk : 0 ≤ idx (starts (i : Int) s.cls) line) => (show ∃ k : Nat, k < 8 ∧ idx (starts (i : Int) s.cls) line = k by
  obtain ⟨k, h1, h2, h3, h4⟩ := idx_mem (by omega) hk
  have := many_span h4
  exact ⟨k, by omega, h2⟩))
 have HBD := hq9 hbd
 have hgl := h.ltg
 have hsl2 := h.lts
 clear h hs hbd hi h0 hb
 generalize P.length = n at *
 generalize starts (i : Int) s.cls = L at *
 generalize s.cls = cl at *
 by_cases hk0 : 0 ≤ idx L line
 case neg =>
  have hbl : blockAt P line = none := by rw [HBD.out, if_pos (by omega)]
  have HB := hq9 hbl
  have q3 : decide (0 ≤ idx L line) = false := by rw [decide_eq_false_iff_not]; exact hk0
  clear hbl hk0
  go_enter Tryz.func379, Tryz.ntmps379
  go_wp2_with fail
  refine (HSO.out _).mono ?_
  rintro e w' ⟨rfl, rfl⟩
  go_wp2_with fail
  refine (HA.out).mono ?_
  rintro e w' ⟨rfl, rfl⟩
  go_wp2_with fail
  refine (HST.out _).mono ?_
  rintro e w2 ⟨v2, rfl, A2, c2, rfl, b2, o2⟩
  have IX := hq9 (index_ints A2 L.length c2 L line w2 (is_own b2) (by omega))
  have O2 := hq9 o2
  clear b2 o2
  generalize idx L line = ix at *
  go_wp2_with fail
  refine (IX.out).mono ?_
  rintro e w' ⟨rfl, rfl⟩
  go_wp2
  go_quiet (fail)
  go_wp2
  go_ret3
  exact ⟨_, _, _, rfl, .inl ⟨HB.out, rfl⟩, O2.out.drewN _⟩
 obtain ⟨k, hk8, hk⟩ := HMEM.out hk0
 have xm := HM.out k hk8
 have hbd2 := HBD.out
 rw [hk, if_neg (by omega), Int.toNat_natCast] at hbd2
 have HB2 := hq9 hbd2
 have q3 : decide (0 ≤ (k : Int)) = true := by rw [decide_eq_true_eq]; omega
 have z1 : (0 : Int) ≤ (k : Int) := by omega
 have z2 : (k : Int) < 8 := by omega
 have hres : AtIs sb P line (.pointer (some ⟨sb, i * 10, none⟩)) k (s.at k) := by
  by_cases ht : s.at k = true
  ·rw [if_pos ht] at hbd2
   exact .inr ⟨i, k, hbd2, ht, rfl, rfl⟩
  ·rw [if_neg ht] at hbd2
   exact .inl ⟨hbd2, by simpa using ht⟩
 have HRES := hq9 hres
 generalize s.at k = b at *
 have IXX := hq9 hk
 clear hbd2 hk0 hk hres
 go_enter Tryz.func379, Tryz.ntmps379
 go_wp2_with fail
 refine (HSO.out _).mono ?_
 rintro e w' ⟨rfl, rfl⟩
 go_wp2_with fail
 refine (HA.out).mono ?_
 rintro e w' ⟨rfl, rfl⟩
 go_wp2_with fail
 refine (HST.out _).mono ?_
 rintro e w2 ⟨v2, rfl, A2, c2, rfl, b2, o2⟩
 have IX := hq9 (index_ints A2 L.length c2 L line w2 (is_own b2) (by omega))
 rw [IXX.out] at IX
 have O2 := hq9 o2
 have xm2 : w2.cell? ⟨sb, i * 10 + 1 + k, none⟩ = some (.bool b) := (cell_only o2 hsl2 (by simp)).trans xm
 clear b2 o2 xm
 go_wp2_with fail
 refine (IX.out).mono ?_
 rintro e w' ⟨rfl, rfl⟩
 go_wp2
 go_quiet (fail)
 go_wp2
 go_ret3
 exact ⟨_, _, _, rfl, HRES.out, O2.out.drewN _⟩
end Go.Proofs.YtlggichakafkiaaGreat