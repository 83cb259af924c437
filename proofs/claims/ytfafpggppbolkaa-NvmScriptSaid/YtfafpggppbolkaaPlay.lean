/- What a device does of an act, whatever its numbers. -/
import Derived.Test.YtfafpggppbolkaaActs
set_option maxRecDepth 100000
namespace Go.Proofs.Ytfafpggppbolkaa
open Go.RowKit Go.Proofs.FuMem Go.Proofs.FuNvm Go.Proofs.FuCode
instance (len : Nat) (line at_ n : Int) : Decidable (noPlace len line at_ n) := by unfold noPlace; infer_instance
def ansOf (p : Prop) [Decidable p] : Int := if p then 2 else 0
def store1 (D : Dev) (line pos : Int) (l : List UInt8) : Dev := if noPlace D.lines.length line pos l.length then D else storeD D line.toNat (lineOf D line) pos.toNat l
def flush1 (D : Dev) (line : Int) : Dev := if noPlace D.lines.length line 0 0 then D else flushD D line.toNat (lineOf D line)
def back1 (D : Dev) (line : Int) : Dev := if noPlace D.lines.length line 0 0 then D else backD D line.toNat (lineOf D line)
theorem lineOf_get {D : Dev} {i : Nat} (h : i < D.lines.length) : D.lines[i]? = some (lineOf D i) := by
  unfold lineOf
  rw [Int.toNat_natCast, List.getElem?_eq_getElem h]
  simp [List.getD, List.getElem?_eq_getElem h]
theorem nvm_Store_any (g cb cap : Nat) (D : Dev) (line pos : Int) (A : Option Addr) (n c : Nat) (l : List UInt8) (w : World) (hd : DevAt w g cb cap D) (hl : Bs w A n l) (hn : n ≤ maxLen) :
    Calls Try.prog 27 #[.pointer (some ⟨g, 0, none⟩), .int .i64 line, .int .i64 pos, .slice A n c] w fun e w' => e = .returned (.int .i64 (ansOf (noPlace D.lines.length line pos l.length))) ∧ DevAt w' g cb cap (store1 D line pos l) ∧ Only [g, cb] w w' := by
  have hlen : l.length = n := hl.len
  unfold ansOf store1
  rw [hlen]
  by_cases h : noPlace D.lines.length line pos n
  · rw [if_pos h, if_pos h]
    refine (nvm_Store_no g cb cap D line pos A n c w hd hn h).mono ?_
    rintro e w' ⟨rfl, rfl⟩
    exact ⟨rfl, hd, Only.refl _ _⟩
  · rw [if_neg h, if_neg h]
    have h' := h
    unfold noPlace at h'
    obtain ⟨i, rfl⟩ := Int.eq_ofNat_of_zero_le (show 0 ≤ line by omega)
    obtain ⟨a, rfl⟩ := Int.eq_ofNat_of_zero_le (show 0 ≤ pos by omega)
    rw [Int.toNat_natCast, Int.toNat_natCast]
    exact nvm_Store g cb cap D i a _ (lineOf_get (by omega)) A n c l w hd hl (by omega)
theorem nvm_Flush_any (g cb cap : Nat) (D : Dev) (line : Int) (w : World) (hd : DevAt w g cb cap D) :
    Calls Try.prog 20 #[.pointer (some ⟨g, 0, none⟩), .int .i64 line] w fun e w' => e = .returned (.int .i64 (ansOf (noPlace D.lines.length line 0 0))) ∧ DevAt w' g cb cap (flush1 D line) ∧ Only [g, cb] w w' := by
  unfold ansOf flush1
  by_cases h : noPlace D.lines.length line 0 0
  · rw [if_pos h, if_pos h]
    refine (nvm_Flush_no g cb cap D line w hd h).mono ?_
    rintro e w' ⟨rfl, rfl⟩
    exact ⟨rfl, hd, Only.refl _ _⟩
  · rw [if_neg h, if_neg h]
    have h' := h
    unfold noPlace at h'
    obtain ⟨i, rfl⟩ := Int.eq_ofNat_of_zero_le (show 0 ≤ line by omega)
    rw [Int.toNat_natCast]
    exact nvm_Flush g cb cap D i _ (lineOf_get (by omega)) w hd
theorem nvm_Back_any (g cb cap : Nat) (D : Dev) (line : Int) (w : World) (hd : DevAt w g cb cap D) :
    Calls Try.prog 26 #[.pointer (some ⟨g, 0, none⟩), .int .i64 line] w fun e w' => e = .returned (.int .i64 (ansOf (noPlace D.lines.length line 0 0))) ∧ DevAt w' g cb cap (back1 D line) ∧ Only [g, cb] w w' := by
  unfold ansOf back1
  by_cases h : noPlace D.lines.length line 0 0
  · rw [if_pos h, if_pos h]
    refine (nvm_Back_no g cb cap D line w hd h).mono ?_
    rintro e w' ⟨rfl, rfl⟩
    exact ⟨rfl, hd, Only.refl _ _⟩
  · rw [if_neg h, if_neg h]
    have h' := h
    unfold noPlace at h'
    obtain ⟨i, rfl⟩ := Int.eq_ofNat_of_zero_le (show 0 ≤ line by omega)
    rw [Int.toNat_natCast]
    exact nvm_Back g cb cap D i _ (lineOf_get (by omega)) w hd
def playD (D : Dev) (x : Deed) : Dev :=
  if x.kind = 0 then store1 D x.line x.pos x.b else if x.kind = 1 then flush1 D x.line else if x.kind = 2 then fenceD D else if x.kind = 3 then back1 D x.line else if x.kind = 4 then cutD D x.keep else D
set_option maxHeartbeats 1000000 in
theorem law3_play (g cb cap : Nat) (D : Dev) (x : Deed) (s : Holds) (w0 w : World) (hx : DeedOk w0 x s) (on : Only [] w0 w) (hg : w0.heap.size ≤ g) (hcb : w0.heap.size ≤ cb) (hd : DevAt w g cb cap D) (hk : s.kn ≤ 1000000) :
    Calls Try.prog 23 #[.pointer (some ⟨g, 0, none⟩), .agg (deedV x s).toArray] w fun e w' => e = .returned (.tuple #[]) ∧ DevAt w' g cb cap (playD D x) ∧ Only [g, cb] w w' := by
  have hbs := hx.bs.only0 on
  have his := hx.is.only0 on
  have hsafe : 0 < s.kn → ∀ b off t, s.kA = some ⟨b, off, t⟩ → b ≠ g ∧ b ≠ cb := fun hp b off t e => by
    have := sl_blocks hx.is hp b off t e
    omega
  have hm := hx.m1
  obtain ⟨kind, line, pos, bl, keep⟩ := x
  obtain ⟨bA, bn, bc, kA, kn, kc⟩ := s
  simp only at hbs his hsafe hm hk
  unfold playD deedV
  simp only
  clear hx on hg hcb
  have o1 : Only [] w (w.alloc (.cells #[.int .i64 kind, .int .i64 line, .int .i64 pos, .slice bA bn bc, .slice kA kn kc] 36)) := (Only.refl _ _).alloc _
  have HD := Lib.hid (hd.only0 o1)
  have HB := Lib.hid (hbs.only0 o1)
  have HI := Lib.hid (his.only0 o1)
  have HO := Lib.hid o1
  have HSF := Lib.hid hsafe
  have HM := Lib.hid hm
  clear hd hbs his o1 hsafe hm
  by_cases h0 : kind = 0
  · subst h0
    rw [if_pos rfl]
    go_enter Try.func23, Try.ntmps23
    go_wp2_with fail
    refine (nvm_Store_any g cb cap D line pos bA bn bc bl _ HD.out HB.out HM.out).mono ?_
    rintro e w1 ⟨rfl, d1, o1⟩
    have D1 := Lib.hid d1
    have O1 := Lib.hid ((HO.out.mono (T := [g, cb]) (by simp)).trans o1 (fun b hb => .inl hb))
    clear d1 o1
    go_wp2
    go_end0
    exact ⟨rfl, D1.out, O1.out⟩
  by_cases h1 : kind = 1
  · subst h1
    rw [if_neg (by decide)]
    rw [if_pos rfl]
    go_enter Try.func23, Try.ntmps23
    go_wp2_with fail
    refine (nvm_Flush_any g cb cap D line _ HD.out).mono ?_
    rintro e w1 ⟨rfl, d1, o1⟩
    have D1 := Lib.hid d1
    have O1 := Lib.hid ((HO.out.mono (T := [g, cb]) (by simp)).trans o1 (fun b hb => .inl hb))
    clear d1 o1
    go_wp2
    go_end0
    exact ⟨rfl, D1.out, O1.out⟩
  by_cases h2 : kind = 2
  · subst h2
    rw [if_neg (by decide)]
    rw [if_neg (by decide)]
    rw [if_pos rfl]
    go_enter Try.func23, Try.ntmps23
    go_wp2_with fail
    refine (nvm_Fence g cb cap D _ HD.out).mono ?_
    rintro e w1 ⟨rfl, d1, o1⟩
    have D1 := Lib.hid d1
    have O1 := Lib.hid ((HO.out.mono (T := [g, cb]) (by simp)).trans o1 (fun b hb => .inl hb))
    clear d1 o1
    go_wp2
    go_end0
    exact ⟨rfl, D1.out, O1.out⟩
  by_cases h3 : kind = 3
  · subst h3
    rw [if_neg (by decide)]
    rw [if_neg (by decide)]
    rw [if_neg (by decide)]
    rw [if_pos rfl]
    go_enter Try.func23, Try.ntmps23
    go_wp2_with fail
    refine (nvm_Back_any g cb cap D line _ HD.out).mono ?_
    rintro e w1 ⟨rfl, d1, o1⟩
    have D1 := Lib.hid d1
    have O1 := Lib.hid ((HO.out.mono (T := [g, cb]) (by simp)).trans o1 (fun b hb => .inl hb))
    clear d1 o1
    go_wp2
    go_end0
    exact ⟨rfl, D1.out, O1.out⟩
  by_cases h4 : kind = 4
  · subst h4
    rw [if_neg (by decide)]
    rw [if_neg (by decide)]
    rw [if_neg (by decide)]
    rw [if_neg (by decide)]
    rw [if_pos rfl]
    go_enter Try.func23, Try.ntmps23
    go_wp2_with fail
    refine (nvm_Cut g cb cap D kA kn kc keep _ HD.out HI.out hk HSF.out).mono ?_
    rintro e w1 ⟨A', c', rfl, _, d1, o1⟩
    have D1 := Lib.hid d1
    have O1 := Lib.hid ((HO.out.mono (T := [g, cb]) (by simp)).trans o1 (fun b hb => .inl hb))
    clear d1 o1
    go_wp2
    go_end0
    exact ⟨rfl, D1.out, O1.out⟩
  rw [if_neg h0, if_neg h1, if_neg h2, if_neg h3, if_neg h4]
  have e0 : (kind == 0) = false := by simpa using h0
  have e1 : (kind == 1) = false := by simpa using h1
  have e2 : (kind == 2) = false := by simpa using h2
  have e3 : (kind == 3) = false := by simpa using h3
  have e4 : (kind == 4) = false := by simpa using h4
  clear h0 h1 h2 h3 h4
  go_enter Try.func23, Try.ntmps23
  go_wp2
  go_end0
  exact ⟨rfl, HD.out, HO.out.mono (by simp)⟩
end Go.Proofs.Ytfafpggppbolkaa
