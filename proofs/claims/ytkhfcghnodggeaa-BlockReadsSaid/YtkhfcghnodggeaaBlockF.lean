/- The contract of block.Encode. -/
import Derived.Test.YtkhfcghnodggeaaBlockE
import Derived.Lib.BufferWrite
namespace Go.Proofs.FuMem
open Go.RowKit
/-- builtin copy of a string into a block -/
theorem wpList_copy_str {P : Program} {w : World} {ops : Array Oper} {rest : List Oper} {o : Oper} {a : Act} {Q : Exit → Act → World → Prop} (hgd : o.guard = none) (d s : Operand) (dT sT : TypeId)
    (ho : o.op = .call { callee := .builtin .copy, args := #[d, s], argTypes := #[dT, sT] }) (elem : TypeId) (hu : P.underlying dT = some (.slice elem)) (hsz : (P.info? elem).map (·.size) = some 1)
    (g off dLen dCap : Nat) (t : ByteArray) (hd : a.eval d = .slice (some ⟨g, off, none⟩) dLen dCap) (hs : a.eval s = .string t) (T : TypeId) (cs : Array Value) (hb : Blk w g T cs) (hle : t.size ≤ dLen) (hfit : off + t.size ≤ cs.size)
    (h : ∀ w', Blk w' g T (splice cs off (t.data.toList.map B)) → Only [g] w w' → w'.heap.size = w.heap.size → wpList P ops Q rest (a.put o.dst (goInt t.size)) w') : wpList P ops Q (o :: rest) a w :=
  wpList_plain hgd fun K hK => by
    have hr := Lib.run_copy_row_string (P := P) w dT sT o.type elem g off dLen dCap t cs T hu hsz hb hle hfit
    unfold Oper.wp execOp
    simp only [ho, resolve, invoke, builtin, Sem.run_bind, Sem.run_pure, Result.andThen_ok, List.map_toArray, List.map_cons, List.map_nil, hd, hs, hr]
    refine hK _ _ (h _ ?_ ((Only.refl _ _).setRow (.inl (by simp)) _) (by simp))
    have hl : (t.data.toList.map B).length = t.size := by simp
    have := hb.row (cs.toList.take off ++ Lib.byteCells t.data.toList ++ cs.toList.drop (off + t.size)).toArray
    unfold splice
    rw [hl]
    exact this
theorem own_lt {w : World} {base : Nat} {e : TypeId} {size n : Nat} {v : Value} {xs : List Value} (h : w.ownsRow base e size v n xs) : ∀ k, v.ownBlock = some k → k < w.heap.size := fun k hk => by
  rcases h.2 with ⟨rfl, _⟩ | ⟨g, cap, cur, rfl, hbg, hg, _⟩
  · simp [Value.ownBlock] at hk
  · have : g = k := by simpa [Value.ownBlock] using hk
    subst this
    exact (Array.getElem?_eq_some_iff.1 hg).1
end Go.Proofs.FuMem
namespace Go.Proofs.FuBlock
open Go.Proofs.FuCode Go.Proofs.FuCrc Go.Proofs.FuClass
def enc (b : Block) : List UInt8 × Nat := if may b = true then (lines b, 0) else ([], 3)
/-- the j-th line behind the first one -/
def piece (r : List UInt8) (j : Nat) : List UInt8 := 2 :: (r.drop (28 + 63 * j)).take 63
theorem linesTo_piece {b : Block} {m j : Nat} (hr : (room b).length = 28 + 63 * (m - 1)) (hj : j + 1 < m) : linesTo b (64 * (j + 1)) ++ piece (room b) j = linesTo b (64 * (j + 2)) := by
  have hp : (piece (room b) j).length = 64 := by
    unfold piece
    rw [List.length_cons, List.length_take, List.length_drop]
    omega
  have h1 : (linesTo b (64 * (j + 1))).length = 64 * (j + 1) := laid_length _ _ _ _
  apply List.ext_getElem?
  intro i
  rw [List.getElem?_append, h1]
  by_cases c1 : i < 64 * (j + 1)
  · rw [if_pos c1]
    unfold linesTo
    rw [List.getElem?_eq_getElem (by rw [laid_length]; exact c1), List.getElem?_eq_getElem (by rw [laid_length]; omega), laid_at, laid_at]
  · rw [if_neg c1]
    by_cases c2 : i < 64 * (j + 2)
    · have h2 : (linesTo b (64 * (j + 2)))[i]? = some (byteAt (head32 b) (sumOf b) (room b) i) := by
        unfold linesTo
        rw [List.getElem?_eq_getElem (by rw [laid_length]; exact c2), laid_at]
      rw [h2]
      unfold byteAt
      rw [if_neg (by omega), if_neg (by omega), if_neg (by omega)]
      by_cases c3 : i = 64 * (j + 1)
      · subst c3
        rw [if_pos (by omega), Nat.sub_self]
        rfl
      · rw [if_neg (by omega)]
        unfold piece
        obtain ⟨t, ht⟩ : ∃ t, i - 64 * (j + 1) = t + 1 := ⟨i - 64 * (j + 1) - 1, by omega⟩
        rw [ht, List.getElem?_cons_succ, List.getElem?_take_of_lt (by omega), List.getElem?_drop]
        have e : 28 + 63 * (i / 64 - 1) + (i % 64 - 1) = 28 + 63 * j + t := by omega
        rw [e, getD_eq (by omega), List.getElem?_eq_getElem (by omega)]
    · rw [List.getElem?_eq_none (by omega), List.getElem?_eq_none (by unfold linesTo; rw [laid_length]; omega)]
end Go.Proofs.FuBlock
namespace Go.Proofs.Ytkhfcghnodggeaa
open Go.RowKit Go.Proofs.FuMem Go.Proofs.FuCode Go.Proofs.FuClass Go.Proofs.FuBlock Go.Proofs.FuEq Go.Proofs.FuCrc
set_option maxRecDepth 100000
set_option maxHeartbeats 8000000 in
theorem block_Encode (cls kind : Int) (id ver ep : Nat) (ks vs : ByteArray) (w : World) (hc : -9223372036854775808 ≤ cls ∧ cls ≤ 9223372036854775807) (hi : id < 18446744073709551616) (hv : ver < 18446744073709551616) (he : ep < 18446744073709551616)
    (hks : ks.size ≤ 1000000) (hvs : vs.size ≤ 1000000) :
    Calls Try.prog 15 #[blockV cls kind id ver ep ks vs] w (MadeE w (enc (mkB cls kind id ver ep ks vs))) := by
  have o1 : Only [] w (w.alloc (.cells #[.int .i64 cls, .int .i64 kind, .int .u64 id, .int .u64 ver, .int .u64 ep, .string ks, .string vs] 24)) := (Only.refl _ _).alloc _
  have HB := Lib.hid (Blk.new w 24 #[.int .i64 cls, .int .i64 kind, .int .u64 id, .int .u64 ver, .int .u64 ep, .string ks, .string vs])
  have O1 := Lib.hid o1
  clear o1
  have HMAY := Lib.hid (fun w => block_May cls kind id ver ep ks vs w hc hi hv he hks hvs)
  by_cases hm : may (mkB cls kind id ver ep ks vs) = true
  case neg =>
    have hm2 : may (mkB cls kind id ver ep ks vs) = false := by simpa using hm
    have henc : enc (mkB cls kind id ver ep ks vs) = ([], 3) := if_neg hm
    rw [henc]
    rw [hm2] at HMAY
    clear hm hm2 henc
    go_enter Try.func15, Try.ntmps15
    go_wp2_with ((with_reducible show wpList _ _ _ (Oper.mk (some 8) _ _ _ _ _ :: _) _ _); refine wpList_load_mid rfl 24 (.tmp 1) rfl w.heap.size 0 rfl [.int .i64 cls, .int .i64 kind, .int .u64 id, .int .u64 ver, .int .u64 ep, .string ks, .string vs] _ (fun j v hj => by rw [Nat.zero_add, HB.out.cell, List.getElem?_toArray.symm]; exact hj) Try.underlying24 rfl (by kernel_rfl) ?_)
    refine (HMAY.out _).mono ?_
    rintro e w2 ⟨rfl, o2⟩
    have O2 := Lib.hid (O1.out.trans0 o2)
    clear o2
    go_wp2
    go_ret2
    exact ⟨.slice none 0 0, rfl, none, 0, rfl, own_nil _ _ _ _, O2.out⟩
  case pos =>
  have henc : enc (mkB cls kind id ver ep ks vs) = (lines (mkB cls kind id ver ep ks vs), 0) := if_pos hm
  rw [henc]
  have hfine := fine_of hm
  rw [hm] at HMAY
  clear hm henc
  obtain ⟨i0, hi0, hz0, hz1, hz2⟩ := info_parts Try.byteInfo
  have hsp : 1 ≤ span cls ∧ span cls ≤ 8 := span_pos hfine.c0 hfine.c3
  have hcv := capN_val cls
  have hcap : capOf cls = ((capN cls : Nat) : Int) := (Int.toNat_of_nonneg (capOf_bd cls).1).symm
  have HSP := Lib.hid (fun w => class_Span cls w hc)
  have HCP := Lib.hid (fun w => class_Cap cls w hc)
  rw [hcap] at HCP
  have hfit : ks.size + vs.size ≤ capN cls := by have := hfine.fit; simpa [mkB] using this
  have hvl : vs.size ≤ 400 := by have := hfine.val; simpa [mkB] using this
  have hroom : (room (mkB cls kind id ver ep ks vs)).length = capN cls := room_length hfine.fit
  have hrdef : room (mkB cls kind id ver ep ks vs) = pad (capN cls) (ks.data.toList ++ vs.data.toList) := rfl
  have hldef : lines (mkB cls kind id ver ep ks vs) = linesTo (mkB cls kind id ver ep ks vs) (64 * span cls) := rfl
  have HEAD := Lib.hid (fun A n c w (hr : Bs w A n (room (mkB cls kind id ver ep ks vs))) (h1 : 28 ≤ n) (h2 : n ≤ 1000000) => block_head cls kind id ver ep ks vs A n c _ w hi hv he hks (by omega) hr h1 h2)
  have HI0 := Lib.hid hi0
  have HZ0 := Lib.hid hz0
  have HZ1 := Lib.hid hz1
  have HZ2 := Lib.hid hz2
  have HRD := Lib.hid hrdef
  have HLD := Lib.hid hldef
  have HRL := Lib.hid hroom
  have hm1 : capN cls = 28 + 63 * (span cls - 1) := by omega
  obtain ⟨m, hmm⟩ : ∃ m, m = span cls := ⟨_, rfl⟩
  obtain ⟨N, hN⟩ : ∃ N, N = capN cls := ⟨_, rfl⟩
  rw [← hmm] at hsp HSP HLD hm1
  rw [← hN] at HCP hfit HRD HRL hm1
  have HNM := Lib.hid hm1
  have hN28 : 28 ≤ N := by omega
  have hN2 : N ≤ 500 := by omega
  clear hi0 hz0 hz1 hz2 hcv hcap hfine hroom hrdef hldef hc hi hv he hm1 hmm hN
  generalize hrr : room (mkB cls kind id ver ep ks vs) = r at *
  have HRR := Lib.hid hrr
  clear hrr
  go_enter Try.func15, Try.ntmps15
  go_wp2_with ((with_reducible show wpList _ _ _ (Oper.mk (some 8) _ _ _ _ _ :: _) _ _); refine wpList_load_mid rfl 24 (.tmp 1) rfl w.heap.size 0 rfl [.int .i64 cls, .int .i64 kind, .int .u64 id, .int .u64 ver, .int .u64 ep, .string ks, .string vs] _ (fun j v hj => by rw [Nat.zero_add, HB.out.cell, List.getElem?_toArray.symm]; exact hj) Try.underlying24 rfl (by kernel_rfl) ?_)
  refine (HMAY.out _).mono ?_
  rintro e w2 ⟨rfl, o2⟩
  have O2 := Lib.hid (O1.out.trans0 o2)
  have HB2 := Lib.hid (HB.out.only o2 (by simp))
  have x0 : w2.cell? ⟨w.heap.size, 0, none⟩ = some (.int .i64 cls) := HB2.out.cell 0
  clear o2
  go_wp2_with fail
  refine (HCP.out _).mono ?_
  rintro e w' ⟨rfl, rfl⟩
  obtain ⟨w3, hmk, hb3, ho3, hs3⟩ := make_blk (P := Try.prog) w2 27 5 i0 _ Try.underlying27 HI0.out HZ0.out HZ1.out rfl .i64 .i64 N N (by omega) (by rw [HZ2.out]; omega) (by omega)
  have B3 := Lib.hid hb3
  have HB3 := Lib.hid (HB2.out.only ho3 (by simp))
  have O3 := Lib.hid (O2.out.trans0 ho3)
  have x5 : w3.cell? ⟨w.heap.size, 5, none⟩ = some (.string ks) := HB3.out.cell 5
  have x6 : w3.cell? ⟨w.heap.size, 6, none⟩ = some (.string vs) := HB3.out.cell 6
  have hbw := HB2.out.lt
  clear hb3 ho3
  have hsz : (ks ++ vs).size = ks.size + vs.size := ByteArray.size_append ..
  have hdt : (ks ++ vs).data.toList = ks.data.toList ++ vs.data.toList := by simp
  have HDT := Lib.hid hdt
  clear hdt
  go_wp2_with (first
    | ((with_reducible show wpList _ _ _ (Oper.mk (some 21) _ _ _ _ _ :: _) _ _); refine wpList_copy_str rfl (.tmp 15) (.tmp 20) 27 9 rfl 5 Try.underlying27 byteSizeD w2.heap.size 0 N N (ks ++ vs) rfl rfl _ _ B3.out (by rw [hsz]; exact hfit) (by rw [hsz]; simp; omega) ?_; intro w4 hb4 ho4 hs4; have HB4 := Lib.hid (HB3.out.only ho4 (by simp; omega)); have B4 := Lib.hid hb4; have O4 := Lib.hid (O3.out.trans ho4 (by intro b hb; simp at hb; have := O2.out.size; omega)); clear hb4 ho4; have y0 : w4.cell? ⟨w.heap.size, 0, none⟩ = some (.int .i64 cls) := HB4.out.cell 0; have y1 : w4.cell? ⟨w.heap.size, 1, none⟩ = some (.int .i64 kind) := HB4.out.cell 1; have y2 : w4.cell? ⟨w.heap.size, 2, none⟩ = some (.int .u64 id) := HB4.out.cell 2; have y3 : w4.cell? ⟨w.heap.size, 3, none⟩ = some (.int .u64 ver) := HB4.out.cell 3; have y4 : w4.cell? ⟨w.heap.size, 4, none⟩ = some (.int .u64 ep) := HB4.out.cell 4; have y5 : w4.cell? ⟨w.heap.size, 5, none⟩ = some (.string ks) := HB4.out.cell 5; have y6 : w4.cell? ⟨w.heap.size, 6, none⟩ = some (.string vs) := HB4.out.cell 6))
  have hrow : FuMem.splice (Array.replicate N (Value.int .u8 0)) 0 ((ks ++ vs).data.toList.map B) = (r.map B).toArray := by
    unfold FuMem.splice
    rw [HRD.out, HDT.out]
    unfold pad
    apply Array.ext'
    simp [B]
  have b4 := B4.out
  rw [hrow] at b4
  have hbs : Bs w4 (some ⟨w2.heap.size, 0, none⟩) N r := by
    have := Arr.bs b4
    rwa [HRL.out] at this
  have BS4 := Lib.hid hbs
  have BK4 := Lib.hid b4
  clear hrow b4 hbs y0 y1 y2 y3 y4 y5 y6
  refine (HEAD.out _ N N w4 BS4.out hN28 (by omega)).mono ?_
  rintro e w5 ⟨v5, rfl, m5⟩
  obtain ⟨A5, c5, rfl, b5, o5⟩ := m5
  have hl5 : laid (head32 (mkB cls kind id ver ep ks vs)) (lay 4 (crc (head32 (mkB cls kind id ver ep ks vs) ++ r))) r 64 = linesTo (mkB cls kind id ver ep ks vs) 64 := by
    unfold linesTo sumOf
    rw [HRR.out]
  rw [hl5] at b5
  have hl6 : (laid (head32 (mkB cls kind id ver ep ks vs)) (lay 4 (crc (head32 (mkB cls kind id ver ep ks vs) ++ r))) r 64).length = 64 := laid_length _ _ _ _
  have hl7 : (linesTo (mkB cls kind id ver ep ks vs) 64).length = 64 := laid_length _ _ _ _
  rw [hl7] at b5
  rw [hl6]
  have hs4 := O4.out.size
  have HSTEP := Lib.hid (fun j (hj : j + 1 < m) => linesTo_piece (b := mkB cls kind id ver ep ks vs) (m := m) (j := j) (by rw [HRR.out, HRL.out, HNM.out]) hj)
  rw [HRR.out] at HSTEP
  have HOWN := Lib.hid b5
  have OK5 := Lib.hid o5
  have HBD := Lib.hid (BK4.out.only o5 (by simp))
  have O5 := Lib.hid (O4.out.trans0 o5)
  have HB5 := Lib.hid (HB4.out.only o5 (by simp))
  have x0 : w5.cell? ⟨w.heap.size, 0, none⟩ = some (.int .i64 cls) := HB5.out.cell 0
  clear hl5 hl6 hl7 b5 o5
  generalize hlt : linesTo (mkB cls kind id ver ep ks vs) = K at *
  have HLT := Lib.hid hlt
  have HKL := Lib.hid (fun n => (by rw [← hlt]; exact laid_length _ _ _ _ : (K n).length = n))
  clear hlt
  by_cases hm1 : m = 1
  · subst hm1
    obtain rfl : N = 28 := by have := HNM.out; omega
    go_wp2_with fail
    refine (HSP.out _).mono ?_
    rintro e w' ⟨rfl, rfl⟩
    go_wp2
    go_loop [5, 31] (fun o i => o = .slice A5 64 c5 ∧ i = .int .i64 0) (fun _ _ => 0)
    case atStart => exact ⟨rfl, rfl⟩
    case round =>
      obtain ⟨rfl, rfl⟩ := hrel
      go_wp2
      go_ret2
      refine ⟨.slice A5 64 c5, rfl, ?_⟩
      have hl1 := HKL.out 64
      have hll : lines (mkB cls kind id ver ep ks vs) = K 64 := HLD.out
      rw [hll]
      exact madeB_own hl1 (World.ownsRow.mono HOWN.out hs4) O5.out
  · have h28 : ¬ N = 28 := by have := HNM.out; omega
    have hdb : w2.heap.size < w5.heap.size := HBD.out.lt
    have hdw : w.heap.size ≤ w2.heap.size := O2.out.size
    have hbox : w.heap.size < w2.heap.size := hbw
    go_wp2_with fail
    refine (HSP.out _).mono ?_
    rintro e w' ⟨rfl, rfl⟩
    go_wp2
    go_loopw [4, 5, 6, 7, 31] (fun dv ov _ _ i wr => ∃ (j L co : Nat) (Ad Ao : Option Addr), j + 1 ≤ m ∧ i = .int .i64 j ∧ L + 63 * j + 28 = N ∧ dv = .slice Ad L L ∧ (0 < L → Ad = some ⟨w2.heap.size, 28 + 63 * j, none⟩) ∧ ov = .slice Ao (64 * (j + 1)) co ∧
        wr.ownsRow w4.heap.size 5 1 (.slice Ao (64 * (j + 1)) co) (64 * (j + 1)) ((K (64 * (j + 1))).map B) ∧ Only [] w4 wr) (fun _ _ _ _ i _ => m - (intOf i).toNat)
    case atStart => exact ⟨0, N - 28, c5, _, A5, by omega, rfl, by omega, rfl, fun _ => rfl, rfl, HOWN.out, OK5.out⟩
    case round =>
      obtain ⟨j, L, co, Ad, Ao, hj, rfl, hL, rfl, hAd, rfl, ho, on⟩ := hrel
      by_cases hlt : j + 1 < m
      · have hL63 : 63 ≤ L := by have := HNM.out; omega
        have hL2 : L ≤ 500 := by omega
        obtain rfl := hAd (by omega)
        have q1 : decide ((j : Int) < (m : Int) - 1) = true := by rw [decide_eq_true_eq]; omega
        have hb := BK4.out.only on (by simp)
        have hoa := own_lt ho
        obtain ⟨w6, hmk, hb6, ho6, hs6⟩ := make_blk (P := Try.prog) wr 27 5 i0 _ Try.underlying27 HI0.out HZ0.out HZ1.out rfl .i64 .i64 64 64 (by omega) (by rw [HZ2.out]; omega) (by omega)
        simp only [Int.cast_ofNat_Int] at hmk
        have hcl0 : w6.cell? ⟨wr.heap.size, 0, none⟩ = some (.int .u8 0) := by rw [hb6.cell]; rfl
        have hfz0 := hb6.frozen 0
        have hdl := hb.lt
        have hsz := on.size
        have o7 : Only [wr.heap.size] w6 (w6.setCell ⟨wr.heap.size, 0, none⟩ (.int .u8 2)) := (Only.refl _ _).setCell (.inl (by simp)) _
        have hb7 := hb6.set 0 (.int .u8 2)
        have hd7 := (hb.only ho6 (by simp)).only o7 (by simp; omega)
        have hsrc : Bs (w6.setCell ⟨wr.heap.size, 0, none⟩ (.int .u8 2)) (some ⟨w2.heap.size, 28 + 63 * j, none⟩) L ((r.drop (28 + 63 * j)).take L) := by
          have := (Arr.bs hd7)
          rw [HRL.out] at this
          have := this.cut (a := 28 + 63 * j) (m := L) (by omega)
          rwa [Nat.zero_add] at this
        have hlen : (r.drop (28 + 63 * j)).length = L := by rw [List.length_drop, HRL.out]; omega
        rw [List.take_of_length_le (by omega)] at hsrc
        have hpiece : FuMem.splice ((Array.replicate 64 (Value.int .u8 0)).setIfInBounds 0 (.int .u8 2)) 1 (((r.drop (28 + 63 * j)).map B).take 63) = ((piece r j).map B).toArray := by
          unfold FuMem.splice piece
          have h63 : ((List.map B (List.drop (28 + 63 * j) r)).take 63).length = 63 := by rw [List.length_take, List.length_map, hlen]; omega
          rw [h63]
          apply Array.ext'
          simp [List.replicate_succ, B]
        have HPC := Lib.hid hpiece
        have HPL := Lib.hid (show (piece r j).length = 64 by unfold piece; rw [List.length_cons, List.length_take, hlen]; omega)
        have HS7 := Lib.hid hsrc
        have HB7 := Lib.hid hb7
        have O7 := Lib.hid ((on.trans0 ho6).trans o7 (by intro b hb; simp at hb; omega))
        have HO7 := Lib.hid (own_only (own_only ho ho6 (by simp)) o7 (by intro k hk; have := hoa k hk; simp; omega))
        have HST := Lib.hid (HSTEP.out j hlt)
        have HOA := Lib.hid hoa
        clear hlen hsrc hb7 hd7 o7 ho6 hb6 ho hb on hs6 hAd hpiece hoa
        have hmin : Hid (((min L 63 : Nat) : Int) = 63) := Lib.hid (by omega)
        go_wp2_with (first | ((with_reducible show wpList _ _ _ (Oper.mk (some 39) _ _ _ _ _ :: _) _ _); refine wpList_copy_blk rfl (.tmp 37) (.tmp 38) 27 27 rfl 5 Try.underlying27 byteSizeD wr.heap.size 1 63 63 (some ⟨w2.heap.size, 28 + 63 * j, none⟩) L L rfl rfl _ _ HB7.out (by simp) ((r.drop (28 + 63 * j)).map B) HS7.out one_B ?_; intro w8 hb8 ho8 hs8; rw [HPC.out] at hb8; rw [hmin.out]; have W8 := Lib.hid hb8; have O8 := Lib.hid (O7.out.trans ho8 (by intro b hb; simp at hb; omega)); have R8 := Lib.hid (own_only HO7.out ho8 (by intro k hk; have := HOA.out k hk; simp; omega)); clear hb8 ho8 hs8) | (at_builtin; obtain ⟨A9, c9, w9, hr9, hw9, hs9, on9⟩ := append_own (P := Try.prog) w8 O8.out 27 27 5 i0 _ 1 Try.underlying27 HI0.out HZ0.out HZ1.out HZ2.out rfl _ (64 * (j + 1)) _ R8.out (some ⟨wr.heap.size, 0, none⟩) 64 64 ((piece r j).map B) (by have := Arr.bs W8.out; rwa [HPL.out] at this) one_B (by unfold maxLen; omega) (by omega); rw [← List.map_append, HST.out] at hw9; have H9 := Lib.hid hw9; have N9 := Lib.hid on9; clear hw9 hs9 on9; refine wpList_append_run _ rfl (.tmp 43) (.tmp 44) 27 rfl _ _ rfl rfl _ _ hr9 ?_))
        all_goals
          go_roundw
          · exact ⟨j + 1, L - 63, c9, _, A9, by omega, by simp, by omega, by congr 1 <;> omega, fun h => by first | omega | (rw [if_neg (show ¬ L = 63 by omega), show 28 + 63 * j + 63 = 28 + 63 * (j + 1) by omega]) | (rw [show 28 + 63 * j + 63 = 28 + 63 * (j + 1) by omega]), rfl, H9.out, N9.out⟩
          · simp [intOf]
            omega
      · obtain rfl : m = j + 1 := by omega
        obtain rfl : L = 0 := by have := HNM.out; omega
        have q1 : decide ((j : Int) < ((j + 1 : Nat) : Int) - 1) = false := by rw [decide_eq_false_iff_not]; omega
        have HO := Lib.hid ho
        have ON := Lib.hid on
        clear ho on hAd
        go_wp2
        go_ret2
        refine ⟨.slice Ao (64 * (j + 1)) co, rfl, ?_⟩
        have hl1 := HKL.out (64 * (j + 1))
        have hll : lines (mkB cls kind id ver ep ks vs) = K (64 * (j + 1)) := HLD.out
        rw [hll]
        exact madeB_own hl1 (World.ownsRow.mono HO.out hs4) (O4.out.trans0 ON.out)
end Go.Proofs.Ytkhfcghnodggeaa
