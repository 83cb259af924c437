/- The contracts of what the statements share (package fuseelaw0) on bytes and small numbers. -/
import Derived.Test.YtecdalmnndalgaaProg
import Derived.Test.YtecdalmnndalgaaMem
import Derived.WalkLawsBesides
import Derived.WalkSpells
import Derived.Outline
namespace Go.Proofs.Ytecdalmnndalgaa
open Go.RowKit Go.Proofs.FuMem
set_option maxRecDepth 100000

/-- a number, from 0 to below n -/
def low (x : Int) (n : Nat) : Nat := (x % 18446744073709551616).toNat % n
theorem low_lt (x : Int) (n : Nat) (h : 0 < n) : low x n < n := Nat.mod_lt _ h
theorem low_eq (x : Int) (n : Nat) (h : 0 < n) (h2 : n < 9223372036854775808) :
    IntKind.i64.wrap ((IntKind.u64.wrap x).tmod n) = low x n := by
  rw [IntKind.wrap_u64, IntKind.wrap_i64, Int.tmod_eq_emod_of_nonneg (by omega)]
  have h0 : 0 ≤ x % 18446744073709551616 := by omega
  have h1 : ((low x n : Nat) : Int) = x % 18446744073709551616 % n := by
    unfold low
    rw [Int.natCast_emod, Int.toNat_of_nonneg h0]
  have := low_lt x n h
  omega
theorem law0_Low (x : Int) (n : Nat) (w : World) (h : 0 < n) (h2 : n < 9223372036854775808) :
    Calls Try.prog 19 #[.int .i64 x, .int .i64 n] w fun e w' => e = .returned (.int .i64 (low x n)) ∧ w = w' := by
  go_enter Try.func19, Try.ntmps19
  go_wp2
  go_ret
  exact ⟨ret_int (by rw [← low_eq x n h h2, wrap64_eq]), rfl⟩
theorem law0_SameBytes (A A' : Option Addr) (n m c d : Nat) (l k : List UInt8) (w : World) (h : Bs w A n l) (h' : Bs w A' m k) :
    Calls Try.prog 23 #[.slice A n c, .slice A' m d] w fun e w' => e = .returned (.bool (l == k)) ∧ w = w' := by
  have h1 := run_str (P := Try.prog) Try.underlying48 Try.underlying5 Try.underlying9 h c
  have h2 := run_str (P := Try.prog) Try.underlying48 Try.underlying5 Try.underlying9 h' d
  clear h h'
  go_enter Try.func23, Try.ntmps23
  go_wp2
  go_ret
  exact ⟨ret_bool (by simp), rfl⟩

theorem Try.byteInfo : (Try.prog.info? 5).map (fun i => (i.zero, i.size, i.bytes)) = some (some (.int .u8 0), 1, 1) := by kernel_rfl
/-- a lent slice: its block holds the bytes and five marks -/
def Lent (w : World) (g : Nat) (l : List UInt8) : Prop := Blk w g 5 ((l.map B) ++ List.replicate 5 (B 165)).toArray
/-- after j marks -/
def lentTo (l : List UInt8) (j : Nat) : Array Value := ((l.map B) ++ List.replicate j (B 165) ++ List.replicate (5 - j) (B 0)).toArray
theorem lentTo_size (l : List UInt8) (j : Nat) (hj : j ≤ 5) : (lentTo l j).size = l.length + 5 := by simp [lentTo]; omega
theorem lentTo_set (l : List UInt8) (j : Nat) (hj : j < 5) : (lentTo l j).setIfInBounds (l.length + j) (B 165) = lentTo l (j + 1) := by
  apply Array.ext'
  simp only [lentTo, Array.toList_setIfInBounds]
  apply List.ext_getElem
  · simp; omega
  · intro i h1 h2
    simp only [List.getElem_set, List.getElem_append, List.getElem_map, List.getElem_replicate, List.length_map, List.length_append, List.length_replicate]
    repeat' split
    all_goals first | rfl | omega
theorem lent_start (l : List UInt8) (n : Nat) : ((Array.replicate (n + 5) (Value.int .u8 0)).toList.take 0 ++ l.map B ++ (Array.replicate (n + 5) (Value.int .u8 0)).toList.drop (0 + n)).toArray = lentTo l 0 := by
  simp [lentTo, B]
end Go.Proofs.Ytecdalmnndalgaa
