/- The contracts of what the statements share (package fuseelaw0) on bytes and small numbers. -/
import Derived.Test.YtkhfcghnodggeaaProg
import Derived.Test.YtkhfcghnodggeaaMem
import Derived.WalkLawsBesides
import Derived.WalkSpells
import Derived.Outline
namespace Go.Proofs.Ytkhfcghnodggeaa
open Go.RowKit Go.Proofs.FuMem
set_option maxRecDepth 100000

/-- a number, from 0 to below n -/
def low (x : Int) (n : Nat) : Nat := (x % 18446744073709551616).toNat % n
theorem low_lt (x : Int) (n : Nat) (h : 0 < n) : low x n < n := Nat.mod_lt _ h
theorem low_eq (x : Int) (n : Nat) (h : 0 < n) (h2 : n < 9223372036854775808) :
    IntKind.i64.wrap ((IntKind.u64.wrap x).tmod n) = low x n := by
  rw [IntKind.wrap_u64, IntKind.wrap_i64, Int.tmod_eq_emod_of_nonneg (by omega)]
  have h0 : 0 ≤ x % 18446744073709551616 := by omega
  have h1 : ((low x n : Nat) : Int) = x % 18446744073709551616 % n := by
    unfold low
    rw [Int.natCast_emod, Int.toNat_of_nonneg h0]
  have := low_lt x n h
  omega
theorem law0_Low (x : Int) (n : Nat) (w : World) (h : 0 < n) (h2 : n < 9223372036854775808) :
    Calls Try.prog 23 #[.int .i64 x, .int .i64 n] w fun e w' => e = .returned (.int .i64 (low x n)) ∧ w = w' := by
  go_enter Try.func23, Try.ntmps23
  go_wp2
  go_ret
  exact ⟨ret_int (by rw [← low_eq x n h h2, wrap64_eq]), rfl⟩
theorem law0_SameBytes (A A' : Option Addr) (n m c d : Nat) (l k : List UInt8) (w : World) (h : Bs w A n l) (h' : Bs w A' m k) :
    Calls Try.prog 17 #[.slice A n c, .slice A' m d] w fun e w' => e = .returned (.bool (l == k)) ∧ w = w' := by
  have h1 := run_str (P := Try.prog) Try.underlying27 Try.underlying5 Try.underlying9 h c
  have h2 := run_str (P := Try.prog) Try.underlying27 Try.underlying5 Try.underlying9 h' d
  clear h h'
  go_enter Try.func17, Try.ntmps17
  go_wp2
  go_ret
  exact ⟨ret_bool (by simp), rfl⟩

theorem Try.byteInfo : (Try.prog.info? 5).map (fun i => (i.zero, i.size, i.bytes)) = some (some (.int .u8 0), 1, 1) := by kernel_rfl
/-- a lent slice: its block holds the bytes and five marks -/
def Lent (w : World) (g : Nat) (l : List UInt8) : Prop := Blk w g 5 ((l.map B) ++ List.replicate 5 (B 165)).toArray
/-- after j marks -/
def lentTo (l : List UInt8) (j : Nat) : Array Value := ((l.map B) ++ List.replicate j (B 165) ++ List.replicate (5 - j) (B 0)).toArray
theorem lentTo_size (l : List UInt8) (j : Nat) (hj : j ≤ 5) : (lentTo l j).size = l.length + 5 := by simp [lentTo]; omega
theorem lentTo_set (l : List UInt8) (j : Nat) (hj : j < 5) : (lentTo l j).setIfInBounds (l.length + j) (B 165) = lentTo l (j + 1) := by
  apply Array.ext'
  simp only [lentTo, Array.toList_setIfInBounds]
  apply List.ext_getElem
  · simp; omega
  · intro i h1 h2
    simp only [List.getElem_set, List.getElem_append, List.getElem_map, List.getElem_replicate, List.length_map, List.length_append, List.length_replicate]
    repeat' split
    all_goals first | rfl | omega
theorem lent_start (l : List UInt8) (n : Nat) : ((Array.replicate (n + 5) (Value.int .u8 0)).toList.take 0 ++ l.map B ++ (Array.replicate (n + 5) (Value.int .u8 0)).toList.drop (0 + n)).toArray = lentTo l 0 := by
  simp [lentTo, B]
theorem law0_LendBytes (A : Option Addr) (n c : Nat) (l : List UInt8) (w : World) (h : Bs w A n l) (hn : n ≤ 1000000) :
    Calls Try.prog 19 #[.slice A n c] w fun e w' => e = .returned (.slice (some ⟨w.heap.size, 0, none⟩) n (n + 5)) ∧ Lent w' w.heap.size l ∧ Only [] w w' := by
  obtain ⟨i0, hi, hz0, hz1, hz2⟩ := info_parts Try.byteInfo
  obtain ⟨w1, hmk, hb1, ho1, hs1⟩ := make_blk (P := Try.prog) w 27 5 i0 _ Try.underlying27 hi hz0 hz1 rfl .i64 .i64 0 (n + 5) (by omega) (by rw [hz2]; omega) (by omega)
  obtain ⟨w2, hap, hb2, ho2, hs2⟩ := append_blk (P := Try.prog) w1 27 27 5 i0 Try.underlying27 hi hz1 w.heap.size 0 (n + 5) _ hb1 A n c _ (Sl.only0 h ho1) one_B (by omega) (by simp)
  rw [lent_start l n] at hb2
  have ho : Only [] w w2 := ho1.trans ho2 (by simp)
  simp only [Nat.zero_add, Int.natCast_add, Int.cast_ofNat_Int] at hmk hap
  have HL := Lib.hid h.len
  clear h hs1 hs2 hb1 ho1 ho2 hi hz0 hz1 hz2
  go_enter Try.func19, Try.ntmps19
  go_wp2_with (at_builtin; refine wpList_append_run _ rfl (.tmp 10) (.tmp 11) 27 rfl _ _ rfl rfl _ _ hap ?_)
  go_loopw [5] (fun k wr => ∃ j : Nat, j ≤ 5 ∧ k = .int .i64 j ∧ Blk wr w.heap.size 5 (lentTo l j) ∧ Only [] w wr) (fun k _ => 5 - (intOf k).toNat)
  case atStart => exact ⟨0, Nat.zero_le _, rfl, hb2, ho⟩
  case round =>
    obtain ⟨j, hj, rfl, hb, ho'⟩ := hrel
    by_cases hlt : j < 5
    · have hsz := lentTo_size l j hj
      rw [HL.out] at hsz
      obtain ⟨u, hcell⟩ := hb.some_ (i := n + j) (by omega)
      have hfr := hb.frozen (n + j)
      have hset := hb.set (n + j) (B 165)
      rw [show n + j = l.length + j by rw [HL.out], lentTo_set l j hlt, HL.out] at hset
      have hon := ho'.setCell (p := ⟨w.heap.size, n + j, none⟩) (.inr (Nat.le_refl _)) (B 165)
      have H1 := Lib.hid hset
      have H2 := Lib.hid hon
      clear hset hon hb ho' hsz
      go_wp2
      go_roundw
      case rel => exact ⟨j + 1, by omega, by go_num, H1.out, H2.out⟩
      case measure => simp [intOf]; omega
    · obtain rfl : j = 5 := by omega
      have H1 := Lib.hid hb
      have H2 := Lib.hid ho'
      clear hb ho'
      go_wp2
      go_ret
      exact ⟨rfl, by have := H1.out; simpa [lentTo, Lent] using this, H2.out⟩
theorem law0_KeptBytes (A : Option Addr) (n c : Nat) (l : List UInt8) (g : Nat) (w : World) (hg : Lent w g l) (h : Bs w A n l) (hn : n ≤ 1000000) :
    Calls Try.prog 22 #[.slice (some ⟨g, 0, none⟩) n (n + 5), .slice A n c] w fun e w' => e = .returned (.bool true) ∧ w = w' := by
  have hl := h.len
  have hcell : ∀ j, j < 5 → w.cell? ⟨g, n + j, none⟩ = some (.int .u8 165) := fun j hj => by
    rw [Blk.cell hg, ← hl, List.getElem?_toArray, List.getElem?_append_right (by simp), List.getElem?_replicate_of_lt (by simpa using hj)]
    rfl
  have hb : Bs w (some ⟨g, 0, none⟩) n l := Sl.of_blk hg 0 (by simp [← hl]) (by simp [← hl])
  have H := Lib.hid hcell
  have HC := fun w1 (e : w = w1) => law0_SameBytes (some ⟨g, 0, none⟩) A n n (n + 5) c l l w1 (e ▸ hb) (e ▸ h)
  have HC := Lib.hid HC
  clear hcell hb hg h hl
  go_enter Try.func22, Try.ntmps22
  go_wp2
  go_loop [6] (fun k => ∃ j : Nat, j ≤ 5 ∧ k = .int .i64 j) (fun k => 5 - (intOf k).toNat)
  case atStart => exact ⟨0, Nat.zero_le _, rfl⟩
  case round =>
    obtain ⟨j, hj, rfl⟩ := hrel
    by_cases hlt : j < 5
    · have hc := H.out j hlt
      go_wp2
      go_round
      case rel => exact ⟨j + 1, by omega, by go_num⟩
      case measure => simp [intOf]; omega
    · go_wp2_with (go_at_call 17; refine (HC.out _ rfl).mono ?_; rintro e w' ⟨rfl, rfl⟩)
      go_ret
      exact ⟨ret_bool (by simp), rfl⟩
end Go.Proofs.Ytkhfcghnodggeaa
