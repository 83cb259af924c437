/- Law 3: an act, of both devices. -/
import Derived.Test.YtfafpggppbolkaaCopies
import Derived.Test.YtfafpggppbolkaaRef3D
import Derived.Test.YtfafpggppbolkaaLendI
import Derived.Test.YtfafpggppbolkaaLaw2
import Derived.Deep.RegionHeld3
set_option maxRecDepth 100000
namespace Go.Proofs.Ytfafpggppbolkaa
open Go.RowKit Go.Proofs.FuMem Go.Proofs.FuNvm Go.Proofs.FuCode
/-- an act's fields, in a block of their own -/
def BoxAt (w : World) (g : Nat) (x : Deed) (s : Holds) : Prop := w.cell? ⟨g, 1, none⟩ = some (.int .i64 x.line) ∧ w.cell? ⟨g, 2, none⟩ = some (.int .i64 x.pos) ∧ w.cell? ⟨g, 3, none⟩ = some (.slice s.bA s.bn s.bc) ∧ w.cell? ⟨g, 4, none⟩ = some (.slice s.kA s.kn s.kc)
theorem is_only_pos' {w w' : World} {S : List Nat} {A : Option Addr} {n : Nat} {l : List UInt8} (h : Bs w A n l) (ho : Only S w w') (hs : 0 < n → ∀ b off s, A = some ⟨b, off, s⟩ → b ∉ S) : Bs w' A n l := by
  rcases Nat.eq_zero_or_pos n with rfl | hp
  · have := h.len
    obtain rfl : l = [] := List.length_eq_zero_iff.1 this
    exact Bs.nil _ _
  · exact h.only ho (hs hp)
/-- what was answered is written over: its block alone, and what is new -/
theorem law0_OverInts2 (S : List Nat) (base : Nat) (A : Option Addr) (n c : Nat) (l : List Int) (w : World) (h : w.ownsRow base 3 1 (.slice A n c) n (l.map (.int .i64))) (hbase : base ≤ w.heap.size) (hS : ∀ k, (Value.slice A n c).ownBlock = some k → k ∈ S) (hn : n ≤ 1000000) :
    Calls Try.prog 84 #[.slice A n c] w fun e w' => e = .returned (.tuple #[]) ∧ Only S w w' := by
  obtain ⟨i0, hi, hz0, hz1, hz2⟩ := info_parts Try.intInfo
  have HI := Lib.hid hi
  have HZ0 := Lib.hid hz0
  have HZ1 := Lib.hid hz1
  have HZ2 := Lib.hid hz2
  have HO := Lib.hid h
  have HS := Lib.hid hS
  clear hi hz0 hz1 hz2 h hS
  go_enter Try.func84, Try.ntmps84
  go_wp2
  go_loopw [2] (fun i wr => ∃ (j : Nat) (l' : List Int), j ≤ n ∧ i = .int .i64 j ∧ wr.ownsRow base 3 1 (.slice A n c) n (l'.map (.int .i64)) ∧ Only S w wr) (fun i _ => n - (intOf i).toNat)
  case atStart => exact ⟨0, l, Nat.zero_le _, rfl, HO.out, Only.refl _ _⟩
  case round =>
    obtain ⟨j, l', hj, rfl, ho, on⟩ := hrel
    by_cases hlt : j < n
    · obtain ⟨g, rfl, hbg, hgg, ho⟩ := OwnI.of ho (by omega)
      have hcell := ho.cell j hlt
      have hfr := ho.frozen j
      have hst := ho.set j (-999)
      have on2 := on.setCell (p := ⟨g, j, none⟩) (.inl (HS.out g rfl)) (.int .i64 (-999))
      have H1 := Lib.hid hst
      have H2 := Lib.hid on2
      clear ho on hst on2
      generalize l'.set j (-999) = l2 at *
      generalize l'.getD j 0 = x at *
      go_wp2
      go_roundw
      case rel => exact ⟨j + 1, l2, by omega, by go_num, H1.out, H2.out⟩
      case measure => simp [intOf]; omega
    · obtain rfl : j = n := by omega
      obtain ⟨v', w', hr, ho2, hg2, _⟩ := run_append_sl (P := Try.prog) (wr.alloc (.cells #[.int .i64 (-998)] 3)) base 34 34 3 i0 _ 8 Try.underlying34 HI.out HZ0.out HZ1.out HZ2.out rfl _ j _ (ho.alloc _) (some ⟨wr.heap.size, 0, none⟩) 1 1 [.int .i64 (-998)] (cell_new1 _ _ _) (ints_new1 _ _) (by unfold maxLen; omega) (by omega) (by have := on.size; simp; omega)
      have on2 : Only S w w' := (on.alloc _).trans (Only.of_grown hg2 (S := S) (fun k hk => .inl (HS.out k hk))) (fun b hb => .inl hb)
      have H2 := Lib.hid on2
      clear ho on ho2 hg2 on2
      go_wp2_with (at_builtin; refine wpList_append_run _ rfl (.tmp 12) (.tmp 13) 34 rfl _ _ rfl rfl _ _ hr ?_)
      go_end0
      exact ⟨rfl, H2.out⟩
set_option maxHeartbeats 16000000 in
theorem law3_done (g cb cap rg rb rcap : Nat) (D : Dev) (x : Deed) (s : Holds) (w0 w : World) (hx : DeedOk w0 x s) (on : Only [] w0 w) (hg : w0.heap.size ≤ g) (hcb : w0.heap.size ≤ cb) (hrg : w0.heap.size ≤ rg) (hrb : w0.heap.size ≤ rb)
    (hd : DevAt w g cb cap D) (hr : RefAt w rg rb rcap D) (hn1 : g ≠ rg ∧ g ≠ rb) (hn2 : cb ≠ rg ∧ cb ≠ rb) (hb : s.bn ≤ 100) (hk : s.kn ≤ 100) :
    Calls Try.prog 52 #[.pointer (some ⟨g, 0, none⟩), .pointer (some ⟨rg, 0, none⟩), .agg (deedV x s).toArray] w fun e w' => e = .returned (.bool true) ∧ DevAt w' g cb cap (playD D x) ∧ RefAt w' rg rb rcap (playD D x) ∧ Only [g, cb, rg, rb] w w' := by
  have hbs := hx.bs.only0 on
  have his := hx.is.only0 on
  have hsb : 0 < s.bn → ∀ b off t, s.bA = some ⟨b, off, t⟩ → b < w0.heap.size := fun hp => sl_blocks hx.bs hp
  have hsk : 0 < s.kn → ∀ b off t, s.kA = some ⟨b, off, t⟩ → b < w0.heap.size := fun hp => sl_blocks hx.is hp
  have hk3 := hx.k3
  obtain ⟨kind, line, pos, bl, keep⟩ := x
  obtain ⟨bA, bn, bc, kA, kn, kc⟩ := s
  simp only at hbs his hsb hsk hk3 hb hk
  unfold playD deedV
  simp only
  clear hx on
  have hlt1 := hd.lt1
  have hlt2 := hd.lt2
  have hlt3 := hr.lt1
  have hlt4 := hr.lt2
  have o1 : Only [] w (w.alloc (.cells #[.int .i64 kind, .int .i64 line, .int .i64 pos, .slice bA bn bc, .slice kA kn kc] 36)) := (Only.refl _ _).alloc _
  have HBX := Lib.hid (Blk.new w 36 #[.int .i64 kind, .int .i64 line, .int .i64 pos, .slice bA bn bc, .slice kA kn kc])
  have HD := Lib.hid (hd.only0 o1)
  have HR := Lib.hid (hr.only0 o1)
  have HB := Lib.hid (hbs.only0 o1)
  have HI := Lib.hid (his.only0 o1)
  have HO := Lib.hid o1
  have HSB := Lib.hid hsb
  have HSK := Lib.hid hsk
  clear hd hr hbs his o1 hsb hsk
  have hne1 : w.heap.size ≠ g := by omega
  have hne2 : w.heap.size ≠ cb := by omega
  have hne3 : w.heap.size ≠ rg := by omega
  have hne4 : w.heap.size ≠ rb := by omega
  by_cases h0 : kind = 0
  · subst h0
    rw [if_pos rfl]
    go_enter Try.func52, Try.ntmps52
    go_wp2_with fail
    refine (law0_LendBytes _ _ _ bl _ HB.out (by omega)).mono ?_
    rintro e w2 ⟨rfl, l2, o2⟩
    have l2' : Lent w2 (w.heap.size + 1) bl := by simpa using l2
    have L2 := Lib.hid l2'
    have HBX2 := Lib.hid (HBX.out.only o2 (by simp))
    have D2 := Lib.hid (HD.out.only0 o2)
    have R2 := Lib.hid (HR.out.only0 o2)
    have B2 := Lib.hid (HB.out.only0 o2)
    have O2 := Lib.hid (HO.out.trans0 o2)
    have hs2 := o2.size
    clear l2 l2' o2
    have hll : bl.length = bn := HB.out.len
    have hlb : Bs w2 (some ⟨w.heap.size + 1, 0, none⟩) bn bl := Sl.of_blk L2.out 0 (by simp [← hll]) (by simp [← hll])
    have HLB := Lib.hid hlb
    have y1 : w2.cell? ⟨w.heap.size, 1, none⟩ = some (.int .i64 line) := HBX2.out.cell 1
    have y2 : w2.cell? ⟨w.heap.size, 2, none⟩ = some (.int .i64 pos) := HBX2.out.cell 2
    clear hll hlb
    go_wp2_with fail
    refine (nvm_Store_any g cb cap D line pos _ bn (bn + 5) bl w2 D2.out HLB.out (by unfold maxLen; omega)).mono ?_
    rintro e w3 ⟨rfl, d3, o3⟩
    have e1 : w.heap.size ∉ [g, cb] := by simp; omega
    have HBX3 := Lib.hid (HBX2.out.only o3 e1)
    have D3 := Lib.hid d3
    have R3 := Lib.hid (IsDev.only R2.out o3 (by simp; omega) (by simp; omega))
    have B3 := Lib.hid (is_only_pos' B2.out o3 (fun hp b off t e hb => by have := HSB.out hp b off t e; simp at hb; omega))
    have L3 := Lib.hid (Blk.only L2.out o3 (by simp; omega))
    have O3 := Lib.hid ((O2.out.mono (T := [g, cb, rg, rb]) (by simp)).trans o3 (fun b hb => .inl (by simp at hb ⊢; omega)))
    clear d3 o3 e1
    go_wp2_with fail
    have hbox : BoxAt w3 w.heap.size ⟨0, line, pos, bl, keep⟩ ⟨bA, bn, bc, kA, kn, kc⟩ := ⟨HBX3.out.cell 1, HBX3.out.cell 2, HBX3.out.cell 3, HBX3.out.cell 4⟩
    unfold BoxAt at hbox
    simp only at hbox
    obtain ⟨x1, x2, x3, x4⟩ := hbox
    have dr : Only [] w3 w3.drew := (Only.refl _ _).drew
    have RD := Lib.hid (R3.out.only0 dr)
    have BD := Lib.hid (Bs.only0 B3.out dr)
    have DD := Lib.hid (D3.out.only0 dr)
    have LD := Lib.hid (Blk.only L3.out dr (by simp))
    have OD := Lib.hid (O3.out.trans0 dr)
    have HXD := Lib.hid (HBX3.out.only dr (by simp))
    have hlen3 := O3.out.size
    clear dr HBX3
    go_region_held3 (fun w' => w'.cell? ⟨w.heap.size, 1, none⟩ = some (.int .i64 line) ∧ w'.cell? ⟨w.heap.size, 2, none⟩ = some (.int .i64 pos) ∧ w'.cell? ⟨w.heap.size, 3, none⟩ = some (.slice bA bn bc)) (go_keep)
      (first
        | (go_at_call 47; refine (law0_Num _ _).mono ?_; rintro e w' ⟨rfl, rfl⟩)
        | (go_at_call 59; refine (ref3_Store_any rg rb rcap D line pos bA bn bc bl _ RD.out BD.out (by unfold maxLen; omega) (fun hp b off t e => by have := HSB.out hp b off t e; omega) hk3).mono ?_; rintro e w6 ⟨rfl, r6, o6⟩; have z1 : w6.cell? ⟨w.heap.size, 1, none⟩ = some (.int .i64 line) := (HXD.out.only o6 (by simp; omega)).cell 1; have z2 : w6.cell? ⟨w.heap.size, 2, none⟩ = some (.int .i64 pos) := (HXD.out.only o6 (by simp; omega)).cell 2; have z3 : w6.cell? ⟨w.heap.size, 3, none⟩ = some (.slice bA bn bc) := (HXD.out.only o6 (by simp; omega)).cell 3; have R6 := Lib.hid r6; have D6 := Lib.hid (IsDev.only DD.out o6 (by simp; omega) (by simp; omega)); have L6 := Lib.hid (Blk.only LD.out o6 (by simp; omega)); have B6 := Lib.hid (is_only_pos' BD.out o6 (fun hp b off t e hb => by have := HSB.out hp b off t e; simp at hb; omega)); have O6 := Lib.hid (OD.out.trans o6 (T := [rg, rb]) (S := [g, cb, rg, rb]) (by simp)); clear r6 o6)
        | (go_at_call 34; refine (law0_KeptBytes bA bn bc bl (w.heap.size + 1) _ L6.out B6.out (by omega)).mono ?_; rintro e w' ⟨rfl, rfl⟩))
    all_goals (go_wp2; go_ret; exact ⟨rfl, D6.out, R6.out, O6.out⟩)
  by_cases h1 : kind = 1
  · subst h1
    rw [if_neg (by decide), if_pos rfl]
    have x1 : (w.alloc (.cells #[.int .i64 1, .int .i64 line, .int .i64 pos, .slice bA bn bc, .slice kA kn kc] 36)).cell? ⟨w.heap.size, 1, none⟩ = some (.int .i64 line) := HBX.out.cell 1
    have dr : Only [] (w.alloc (.cells #[.int .i64 1, .int .i64 line, .int .i64 pos, .slice bA bn bc, .slice kA kn kc] 36)) (w.alloc (.cells #[.int .i64 1, .int .i64 line, .int .i64 pos, .slice bA bn bc, .slice kA kn kc] 36)).drew := (Only.refl _ _).drew
    have DD := Lib.hid (HD.out.only0 dr)
    have RD := Lib.hid (HR.out.only0 dr)
    have OD := Lib.hid (HO.out.trans0 dr)
    have HXD := Lib.hid (HBX.out.only dr (by simp))
    clear dr HD HR HO HBX HI HB
    go_enter Try.func52, Try.ntmps52
    go_wp2_with fail
    generalize w.alloc (.cells #[.int .i64 1, .int .i64 line, .int .i64 pos, .slice bA bn bc, .slice kA kn kc] 36) = w1 at *
    go_region_held3 (fun w' => w'.cell? ⟨w.heap.size, 1, none⟩ = some (.int .i64 line)) (go_keep)
      (first
        | (go_at_call 47; refine (law0_Num _ _).mono ?_; rintro e w' ⟨rfl, rfl⟩)
        | (go_at_call 20; refine (nvm_Flush_any g cb cap D line _ DD.out).mono ?_; rintro e w5 ⟨rfl, r5, o5⟩; have z1 : w5.cell? ⟨w.heap.size, 1, none⟩ = some (.int .i64 line) := (HXD.out.only o5 (by simp; omega)).cell 1; have D5 := Lib.hid r5; have HX5 := Lib.hid (HXD.out.only o5 (by simp; omega)); have R5 := Lib.hid (IsDev.only RD.out o5 (by simp; omega) (by simp; omega)); have O5 := Lib.hid ((OD.out.mono (T := [g, cb, rg, rb]) (by simp)).trans o5 (fun b hb => .inl (by simp at hb ⊢; omega))); clear r5 o5)
        | (go_at_call 79; refine (ref3_Flush_any rg rb rcap D line _ R5.out).mono ?_; rintro e w6 ⟨rfl, r6, o6⟩; have z2 : w6.cell? ⟨w.heap.size, 1, none⟩ = some (.int .i64 line) := (HX5.out.only o6 (by simp; omega)).cell 1; have R6 := Lib.hid r6; have D6 := Lib.hid (IsDev.only D5.out o6 (by simp; omega) (by simp; omega)); have O6 := Lib.hid (O5.out.trans o6 (fun b hb => .inl (by simp at hb ⊢; omega))); clear r6 o6))
    all_goals (go_wp2; go_ret; exact ⟨rfl, D6.out, R6.out, O6.out⟩)
  by_cases h2 : kind = 2
  · subst h2
    rw [if_neg (by decide), if_neg (by decide), if_pos rfl]
    clear HBX HB HI HSB HSK
    go_enter Try.func52, Try.ntmps52
    go_wp2_with fail
    refine (ref3_Fence rg rb rcap D _ HR.out).mono ?_
    rintro e w5 ⟨rfl, r5, o5⟩
    have R5 := Lib.hid r5
    have D5 := Lib.hid (IsDev.only HD.out o5 (by simp; omega) (by simp; omega))
    have O5 := Lib.hid ((HO.out.mono (T := [g, cb, rg, rb]) (by simp)).trans o5 (fun b hb => .inl (by simp at hb ⊢; omega)))
    clear r5 o5
    go_wp2_with fail
    refine (nvm_Fence g cb cap D _ D5.out).mono ?_
    rintro e w6 ⟨rfl, d6, o6⟩
    have D6 := Lib.hid d6
    have R6 := Lib.hid (IsDev.only R5.out o6 (by simp; omega) (by simp; omega))
    have O6 := Lib.hid (O5.out.trans o6 (fun b hb => .inl (by simp at hb ⊢; omega)))
    clear d6 o6
    go_wp2
    go_ret
    exact ⟨rfl, D6.out, R6.out, O6.out⟩
  by_cases h3 : kind = 3
  · subst h3
    rw [if_neg (by decide), if_neg (by decide), if_neg (by decide), if_pos rfl]
    have x1 : (w.alloc (.cells #[.int .i64 3, .int .i64 line, .int .i64 pos, .slice bA bn bc, .slice kA kn kc] 36)).cell? ⟨w.heap.size, 1, none⟩ = some (.int .i64 line) := HBX.out.cell 1
    have dr : Only [] (w.alloc (.cells #[.int .i64 3, .int .i64 line, .int .i64 pos, .slice bA bn bc, .slice kA kn kc] 36)) (w.alloc (.cells #[.int .i64 3, .int .i64 line, .int .i64 pos, .slice bA bn bc, .slice kA kn kc] 36)).drew := (Only.refl _ _).drew
    have DD := Lib.hid (HD.out.only0 dr)
    have RD := Lib.hid (HR.out.only0 dr)
    have OD := Lib.hid (HO.out.trans0 dr)
    have HXD := Lib.hid (HBX.out.only dr (by simp))
    clear dr HD HR HO HBX HI HB
    go_enter Try.func52, Try.ntmps52
    go_wp2_with fail
    generalize w.alloc (.cells #[.int .i64 3, .int .i64 line, .int .i64 pos, .slice bA bn bc, .slice kA kn kc] 36) = w1 at *
    go_region_held3 (fun w' => w'.cell? ⟨w.heap.size, 1, none⟩ = some (.int .i64 line)) (go_keep)
      (first
        | (go_at_call 47; refine (law0_Num _ _).mono ?_; rintro e w' ⟨rfl, rfl⟩)
        | (go_at_call 26; refine (nvm_Back_any g cb cap D line _ DD.out).mono ?_; rintro e w5 ⟨rfl, r5, o5⟩; have z1 : w5.cell? ⟨w.heap.size, 1, none⟩ = some (.int .i64 line) := (HXD.out.only o5 (by simp; omega)).cell 1; have D5 := Lib.hid r5; have HX5 := Lib.hid (HXD.out.only o5 (by simp; omega)); have R5 := Lib.hid (IsDev.only RD.out o5 (by simp; omega) (by simp; omega)); have O5 := Lib.hid ((OD.out.mono (T := [g, cb, rg, rb]) (by simp)).trans o5 (fun b hb => .inl (by simp at hb ⊢; omega))); clear r5 o5)
        | (go_at_call 81; refine (ref3_Back_any rg rb rcap D line _ R5.out).mono ?_; rintro e w6 ⟨rfl, r6, o6⟩; have z2 : w6.cell? ⟨w.heap.size, 1, none⟩ = some (.int .i64 line) := (HX5.out.only o6 (by simp; omega)).cell 1; have R6 := Lib.hid r6; have D6 := Lib.hid (IsDev.only D5.out o6 (by simp; omega) (by simp; omega)); have O6 := Lib.hid (O5.out.trans o6 (fun b hb => .inl (by simp at hb ⊢; omega))); clear r6 o6))
    all_goals (go_wp2; go_ret; exact ⟨rfl, D6.out, R6.out, O6.out⟩)
  by_cases h4 : kind = 4
  · subst h4
    rw [if_neg (by decide), if_neg (by decide), if_neg (by decide), if_neg (by decide), if_pos rfl]
    go_enter Try.func52, Try.ntmps52
    go_wp2_with fail
    refine (law0_LendInts _ _ _ keep _ HI.out (by omega)).mono ?_
    rintro e w2 ⟨rfl, l2, o2⟩
    have l2' : LentI w2 (w.heap.size + 1) keep := by simpa using l2
    have L2 := Lib.hid l2'
    have HBX2 := Lib.hid (HBX.out.only o2 (by simp))
    have D2 := Lib.hid (HD.out.only0 o2)
    have R2 := Lib.hid (HR.out.only0 o2)
    have I2 := Lib.hid (Is.only0 HI.out o2)
    have O2 := Lib.hid (HO.out.trans0 o2)
    have hs2 := o2.size
    have hlt5 := Blk.lt L2.out
    have KL := Lib.hid (Is.len HI.out)
    have LB := Lib.hid (LentI.is L2.out KL.out)
    clear l2 l2' o2 HBX HD HR HI HO HB
    go_wp2_with fail
    refine (nvm_Cut g cb cap D _ kn (kn + 3) keep w2 D2.out LB.out (by omega) (fun _ b off t e => by cases e; omega)).mono ?_
    rintro e w3 ⟨A3, c3, rfl, q3, d3, o3⟩
    have hll := lostTo_length keep D.lines D.lines.length
    have hfew := D2.out.few
    have q3s := World.ownsRow.lt q3
    have Q3 := Lib.hid q3
    have hs3 := o3.size
    have HQ := Lib.hid (fun k (e : (Value.slice A3 (lostTo keep D.lines D.lines.length).length c3).ownBlock = some k) => q3s k e)
    have HBX3 := Lib.hid (HBX2.out.only o3 (by simp; omega))
    have D3 := Lib.hid d3
    have R3 := Lib.hid (IsDev.only R2.out o3 (by simp; omega) (by simp; omega))
    have I3 := Lib.hid (is_only_pos I2.out o3 (fun hp b off t e hb => by have := HSK.out hp b off t e; simp at hb; omega))
    have L3 := Lib.hid (Blk.only L2.out o3 (by simp; omega))
    have O3 := Lib.hid ((O2.out.mono (T := [g, cb, rg, rb]) (by simp)).trans o3 (fun b hb => .inl (by simp at hb ⊢; omega)))
    have z4 : w3.cell? ⟨w.heap.size, 4, none⟩ = some (.slice kA kn kc) := HBX3.out.cell 4
    clear q3 q3s d3 o3
    go_wp2_with fail
    refine (ref3_Cut rg rb rcap D kA kn kc keep w3 R3.out I3.out (by omega) (fun hp b off t e => by have := HSK.out hp b off t e; omega)).mono ?_
    rintro e w4 ⟨A4, c4, rfl, q4, r4, o4⟩
    have hs4 := o4.size
    have J3 := Lib.hid (own_only Q3.out o4 (fun k hk => by have := HQ.out k hk; simp; omega))
    have J4 := Lib.hid q4
    have HBX4 := Lib.hid (HBX3.out.only o4 (by simp; omega))
    have R4 := Lib.hid r4
    have D4 := Lib.hid (IsDev.only D3.out o4 (by simp; omega) (by simp; omega))
    have I4 := Lib.hid (is_only_pos I3.out o4 (fun hp b off t e hb => by have := HSK.out hp b off t e; simp at hb; omega))
    have L4 := Lib.hid (Blk.only L3.out o4 (by simp; omega))
    have O4 := Lib.hid (O3.out.trans o4 (fun b hb => .inl (by simp at hb ⊢; omega)))
    clear q4 r4 o4 z4
    go_wp2_with fail
    refine (law0_SameInts _ _ _ _ _ _ _ _ _ (is_own J3.out) (is_own J4.out) (by omega) (by omega)).mono ?_
    rintro e w5 ⟨rfl, o5⟩
    rw [beq_self_eq_true]
    have J5 := Lib.hid (own_only J3.out o5 (by simp))
    have HBX5 := Lib.hid (HBX4.out.only o5 (by simp))
    have D5 := Lib.hid (D4.out.only0 o5)
    have R5 := Lib.hid (R4.out.only0 o5)
    have I5 := Lib.hid (Is.only0 I4.out o5)
    have L5 := Lib.hid (Blk.only L4.out o5 (by simp))
    have O5 := Lib.hid (O4.out.trans0 o5)
    have hs5 := o5.size
    have z5 : w5.cell? ⟨w.heap.size, 4, none⟩ = some (.slice kA kn kc) := HBX5.out.cell 4
    clear o5
    go_wp2_with fail
    refine (law0_KeptInts kA kn kc keep (w.heap.size + 1) w5 L5.out I5.out (by omega)).mono ?_
    rintro e w6 ⟨rfl, o6⟩
    have J6 := Lib.hid (own_only J5.out o6 (by simp))
    have D6 := Lib.hid (D5.out.only0 o6)
    have R6 := Lib.hid (R5.out.only0 o6)
    have O6 := Lib.hid (O5.out.trans0 o6)
    have hs6 := o6.size
    clear o6
    obtain ⟨S, hS1, hS2⟩ : ∃ S : List Nat, (∀ k, (Value.slice A3 (lostTo keep D.lines D.lines.length).length c3).ownBlock = some k → k ∈ S) ∧ ∀ k ∈ S, w2.heap.size ≤ k := by
      refine ⟨((Value.slice A3 (lostTo keep D.lines D.lines.length).length c3).ownBlock).toList, fun k hk => by rw [hk]; simp, fun k hk => ?_⟩
      have := HQ.out k (by simpa using hk)
      omega
    have HS1 := Lib.hid hS1
    have HS2 := Lib.hid hS2
    clear hS1 hS2
    go_wp2_with fail
    refine (law0_OverInts2 S w2.heap.size _ _ _ _ w6 J6.out (by omega) HS1.out (by omega)).mono ?_
    rintro e w7 ⟨rfl, o7⟩
    have D7 := Lib.hid (IsDev.only D6.out o7 (fun h => by have := HS2.out _ h; omega) (fun h => by have := HS2.out _ h; omega))
    have R7 := Lib.hid (IsDev.only R6.out o7 (fun h => by have := HS2.out _ h; omega) (fun h => by have := HS2.out _ h; omega))
    have hs20 := O2.out.size
    have O7 := Lib.hid (O6.out.trans o7 (fun b hb => .inr (by have := HS2.out _ hb; omega)))
    clear o7
    go_wp2
    go_ret
    exact ⟨rfl, D7.out, R7.out, O7.out⟩
  · rw [if_neg h0, if_neg h1, if_neg h2, if_neg h3, if_neg h4]
    have q0 : (kind == 0) = false := by simpa using h0
    have q1 : (kind == 1) = false := by simpa using h1
    have q2 : (kind == 2) = false := by simpa using h2
    have q3 : (kind == 3) = false := by simpa using h3
    have q4 : (kind == 4) = false := by simpa using h4
    have HO2 := Lib.hid (HO.out.mono (T := [g, cb, rg, rb]) (by simp))
    clear h0 h1 h2 h3 h4 HB HI HBX HSB HSK HO
    go_enter Try.func52, Try.ntmps52
    go_wp2
    go_ret
    exact ⟨rfl, HD.out, HR.out, HO2.out⟩
end Go.Proofs.Ytfafpggppbolkaa
