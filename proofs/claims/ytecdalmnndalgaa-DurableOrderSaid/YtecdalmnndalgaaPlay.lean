/- What a device does of an act, whatever its numbers. -/
import Derived.Test.YtecdalmnndalgaaActs
set_option maxRecDepth 100000
namespace Go.Proofs.Ytecdalmnndalgaa
open Go.RowKit Go.Proofs.FuMem Go.Proofs.FuNvm Go.Proofs.FuCode
instance (len : Nat) (line at_ n : Int) : Decidable (noPlace len line at_ n) := by unfold noPlace; infer_instance
def ansOf (p : Prop) [Decidable p] : Int := if p then 2 else 0
def store1 (D : Dev) (line pos : Int) (l : List UInt8) : Dev := if noPlace D.lines.length line pos l.length then D else storeD D line.toNat (lineOf D line) pos.toNat l
def flush1 (D : Dev) (line : Int) : Dev := if noPlace D.lines.length line 0 0 then D else flushD D line.toNat (lineOf D line)
def back1 (D : Dev) (line : Int) : Dev := if noPlace D.lines.length line 0 0 then D else backD D line.toNat (lineOf D line)
theorem lineOf_get {D : Dev} {i : Nat} (h : i < D.lines.length) : D.lines[i]? = some (lineOf D i) := by
  unfold lineOf
  rw [Int.toNat_natCast, List.getElem?_eq_getElem h]
  simp [List.getD, List.getElem?_eq_getElem h]
theorem nvm_Store_any (g cb cap : Nat) (D : Dev) (line pos : Int) (A : Option Addr) (n c : Nat) (l : List UInt8) (w : World) (hd : DevAt w g cb cap D) (hl : Bs w A n l) (hn : n ≤ maxLen) :
    Calls Try.prog 20 #[.pointer (some ⟨g, 0, none⟩), .int .i64 line, .int .i64 pos, .slice A n c] w fun e w' => e = .returned (.int .i64 (ansOf (noPlace D.lines.length line pos l.length))) ∧ DevAt w' g cb cap (store1 D line pos l) ∧ Only [g, cb] w w' := by
  have hlen : l.length = n := hl.len
  unfold ansOf store1
  rw [hlen]
  by_cases h : noPlace D.lines.length line pos n
  · rw [if_pos h, if_pos h]
    refine (nvm_Store_no g cb cap D line pos A n c w hd hn h).mono ?_
    rintro e w' ⟨rfl, rfl⟩
    exact ⟨rfl, hd, Only.refl _ _⟩
  · rw [if_neg h, if_neg h]
    have h' := h
    unfold noPlace at h'
    obtain ⟨i, rfl⟩ := Int.eq_ofNat_of_zero_le (show 0 ≤ line by omega)
    obtain ⟨a, rfl⟩ := Int.eq_ofNat_of_zero_le (show 0 ≤ pos by omega)
    rw [Int.toNat_natCast, Int.toNat_natCast]
    exact nvm_Store g cb cap D i a _ (lineOf_get (by omega)) A n c l w hd hl (by omega)
theorem nvm_Flush_any (g cb cap : Nat) (D : Dev) (line : Int) (w : World) (hd : DevAt w g cb cap D) :
    Calls Try.prog 63 #[.pointer (some ⟨g, 0, none⟩), .int .i64 line] w fun e w' => e = .returned (.int .i64 (ansOf (noPlace D.lines.length line 0 0))) ∧ DevAt w' g cb cap (flush1 D line) ∧ Only [g, cb] w w' := by
  unfold ansOf flush1
  by_cases h : noPlace D.lines.length line 0 0
  · rw [if_pos h, if_pos h]
    refine (nvm_Flush_no g cb cap D line w hd h).mono ?_
    rintro e w' ⟨rfl, rfl⟩
    exact ⟨rfl, hd, Only.refl _ _⟩
  · rw [if_neg h, if_neg h]
    have h' := h
    unfold noPlace at h'
    obtain ⟨i, rfl⟩ := Int.eq_ofNat_of_zero_le (show 0 ≤ line by omega)
    rw [Int.toNat_natCast]
    exact nvm_Flush g cb cap D i _ (lineOf_get (by omega)) w hd
theorem nvm_Back_any (g cb cap : Nat) (D : Dev) (line : Int) (w : World) (hd : DevAt w g cb cap D) :
    Calls Try.prog 32 #[.pointer (some ⟨g, 0, none⟩), .int .i64 line] w fun e w' => e = .returned (.int .i64 (ansOf (noPlace D.lines.length line 0 0))) ∧ DevAt w' g cb cap (back1 D line) ∧ Only [g, cb] w w' := by
  unfold ansOf back1
  by_cases h : noPlace D.lines.length line 0 0
  · rw [if_pos h, if_pos h]
    refine (nvm_Back_no g cb cap D line w hd h).mono ?_
    rintro e w' ⟨rfl, rfl⟩
    exact ⟨rfl, hd, Only.refl _ _⟩
  · rw [if_neg h, if_neg h]
    have h' := h
    unfold noPlace at h'
    obtain ⟨i, rfl⟩ := Int.eq_ofNat_of_zero_le (show 0 ≤ line by omega)
    rw [Int.toNat_natCast]
    exact nvm_Back g cb cap D i _ (lineOf_get (by omega)) w hd
def playD (D : Dev) (x : Deed) : Dev :=
  if x.kind = 0 then store1 D x.line x.pos x.b else if x.kind = 1 then flush1 D x.line else if x.kind = 2 then fenceD D else if x.kind = 3 then back1 D x.line else if x.kind = 4 then cutD D x.keep else D
end Go.Proofs.Ytecdalmnndalgaa
