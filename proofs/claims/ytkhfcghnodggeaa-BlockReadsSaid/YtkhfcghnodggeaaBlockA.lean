/- The contracts of package block and of its reference, first part: which blocks may be. -/
import Derived.Test.YtkhfcghnodggeaaClass
import Derived.Test.YtkhfcghnodggeaaCodeRef
import Derived.Test.YtkhfcghnodggeaaBlockP
import Derived.Test.YtkhfcghnodggeaaEqF
namespace Go.Proofs.Ytkhfcghnodggeaa
open Go.RowKit Go.Proofs.FuMem Go.Proofs.FuCode Go.Proofs.FuClass Go.Proofs.FuBlock Go.Proofs.FuEq
set_option maxRecDepth 100000
/-- a block as a value -/
abbrev blockV (cls kind : Int) (id ver ep : Nat) (ks vs : ByteArray) : Value := .agg #[.int .i64 cls, .int .i64 kind, .int .u64 id, .int .u64 ver, .int .u64 ep, .string ks, .string vs]
def mkB (cls kind : Int) (id ver ep : Nat) (ks vs : ByteArray) : Block := ⟨cls, kind, id, ver, ep, ks.data.toList, vs.data.toList⟩
theorem block_number (v : Nat) (w : World) (hv : v < 18446744073709551616) :
    Calls Try.prog 31 #[.int .u64 v] w fun e w' => e = .returned (.bool (number v)) ∧ w = w' := by
  by_cases h1 : 1 ≤ v
  · by_cases h2 : v ≤ 2305843009213693952
    · have hn : number v = true := by unfold number; simp [h1, h2]
      have q1 : decide ((1 : Int) ≤ (v : Int)) = true := by go_num
      have q2 : decide ((v : Int) ≤ 2305843009213693952) = true := by go_num
      rw [hn]
      clear hn h2 hv
      go_enter Try.func31, Try.ntmps31
      go_wp2
      go_ret
      exact ⟨rfl, rfl⟩
    · have hn : number v = false := by unfold number; simp [h2]
      have q1 : decide ((1 : Int) ≤ (v : Int)) = true := by go_num
      have q2 : decide ((v : Int) ≤ 2305843009213693952) = false := by go_num
      rw [hn]
      clear hn h2 hv
      go_enter Try.func31, Try.ntmps31
      go_wp2
      go_ret
      exact ⟨rfl, rfl⟩
  · have hn : number v = false := by unfold number; simp [h1]
    have q1 : decide ((1 : Int) ≤ (v : Int)) = false := by go_num
    rw [hn]
    clear hn hv
    go_enter Try.func31, Try.ntmps31
    go_wp2
    go_ret
    exact ⟨rfl, rfl⟩
theorem ref6_number (v : Nat) (w : World) (hv : v < 18446744073709551616) :
    Calls Try.prog 32 #[.int .u64 v] w fun e w' => e = .returned (.bool (number v)) ∧ w = w' := by
  by_cases h1 : 1 ≤ v
  · by_cases h2 : v ≤ 2305843009213693952
    · have hn : number v = true := by unfold number; simp [h1, h2]
      have q1 : decide ((1 : Int) ≤ (v : Int)) = true := by go_num
      have q2 : decide ((v : Int) ≤ 2305843009213693952) = true := by go_num
      rw [hn]
      clear hn h2 hv
      go_enter Try.func32, Try.ntmps32
      go_wp2
      go_ret
      exact ⟨rfl, rfl⟩
    · have hn : number v = false := by unfold number; simp [h2]
      have q1 : decide ((1 : Int) ≤ (v : Int)) = true := by go_num
      have q2 : decide ((v : Int) ≤ 2305843009213693952) = false := by go_num
      rw [hn]
      clear hn h2 hv
      go_enter Try.func32, Try.ntmps32
      go_wp2
      go_ret
      exact ⟨rfl, rfl⟩
  · have hn : number v = false := by unfold number; simp [h1]
    have q1 : decide ((1 : Int) ≤ (v : Int)) = false := by go_num
    rw [hn]
    clear hn hv
    go_enter Try.func32, Try.ntmps32
    go_wp2
    go_ret
    exact ⟨rfl, rfl⟩
theorem toList_beq (a b : ByteArray) : (a.toList == b.toList) = (a.data.toList == b.data.toList) := by rw [ByteArray.toList_eq, ByteArray.toList_eq]
/-- are two blocks one? -/
def same (a b : Block) : Bool := a.cls == b.cls && (a.kind == b.kind && (a.id == b.id && (a.ver == b.ver && (a.ep == b.ep && (a.key == b.key && a.val == b.val)))))
theorem same_iff (a b : Block) : same a b = true ↔ a = b := by
  obtain ⟨a1, a2, a3, a4, a5, a6, a7⟩ := a
  obtain ⟨b1, b2, b3, b4, b5, b6, b7⟩ := b
  simp [same]
theorem nat_beq (a b : Nat) : (((a : Int)) == ((b : Int))) = (a == b) := by
  rw [Bool.eq_iff_iff, beq_iff_eq, beq_iff_eq]
  omega
theorem block_equal (c1 k1 : Int) (i1 v1 e1 : Nat) (s1 t1 : ByteArray) (c2 k2 : Int) (i2 v2 e2 : Nat) (s2 t2 : ByteArray) (w : World) :
    (Op.equalIn 10000 24 (blockV c1 k1 i1 v1 e1 s1 t1) (blockV c2 k2 i2 v2 e2 s2 t2)).run Try.prog w = .ok (same (mkB c1 k1 i1 v1 e1 s1 t1) (mkB c2 k2 i2 v2 e2 s2 t2)) w := by
  rw [run_equalIn_struct w 9999 24 _ _ (by kernel_rfl) (by kernel_rfl)]
  have hf : (Try.prog.fieldsOf 24).toList.map (fun f => (f.type, f.offset, decide (f.name = "_"))) = [(3, 0, false), (3, 1, false), (22, 2, false), (22, 3, false), (22, 4, false), (9, 5, false), (9, 6, false)] := by kernel_rfl
  generalize (Try.prog.fieldsOf 24).toList = fs at *
  obtain ⟨f0, f1, f2, f3, f4, f5, f6, rfl⟩ : ∃ f0 f1 f2 f3 f4 f5 f6, fs = [f0, f1, f2, f3, f4, f5, f6] := by
    have hl := congrArg List.length hf
    rw [List.length_map] at hl
    rcases fs with _ | ⟨f0, _ | ⟨f1, _ | ⟨f2, _ | ⟨f3, _ | ⟨f4, _ | ⟨f5, _ | ⟨f6, _ | ⟨f7, fs⟩⟩⟩⟩⟩⟩⟩⟩
    · simp at hl
    · simp at hl
    · simp at hl
    · simp at hl
    · simp at hl
    · simp at hl
    · simp at hl
    · exact ⟨_, _, _, _, _, _, _, rfl⟩
    · simp at hl
  · simp only [List.map_cons, List.map_nil, List.cons.injEq, Prod.mk.injEq, decide_eq_false_iff_not, and_true] at hf
    obtain ⟨⟨t0, o0, n0⟩, ⟨t1', o1, n1⟩, ⟨t2', o2, n2⟩, ⟨t3, o3, n3⟩, ⟨t4, o4, n4⟩, ⟨t5, o5, n5⟩, ⟨t6, o6, n6⟩⟩ := hf
    have hpi : ∀ (xs : Array Value) (k : Nat) (v : Value), xs[k]? = some v → (part 3 xs k).run Try.prog w = .ok v w := fun xs k v h => by
      simp [part, isAgg, run_underlying Try.underlying3, h]
    have hpu : ∀ (xs : Array Value) (k : Nat) (v : Value), xs[k]? = some v → (part 22 xs k).run Try.prog w = .ok v w := fun xs k v h => by
      simp [part, isAgg, run_underlying Try.underlying22, h]
    have hps : ∀ (xs : Array Value) (k : Nat) (v : Value), xs[k]? = some v → (part 9 xs k).run Try.prog w = .ok v w := fun xs k v h => by
      simp [part, isAgg, run_underlying Try.underlying9, h]
    have hqi : ∀ a b : Int, (Op.equalIn 9999 3 (.int .i64 a) (.int .i64 b)).run Try.prog w = .ok (a == b) w := fun a b => run_equalIn_int (P := Try.prog) w 9998 3 .i64 .i64 a b Try.underlying3
    have hqu : ∀ a b : Int, (Op.equalIn 9999 22 (.int .u64 a) (.int .u64 b)).run Try.prog w = .ok (a == b) w := fun a b => run_equalIn_int (P := Try.prog) w 9998 22 .u64 .u64 a b Try.underlying22
    have hqs : ∀ a b : ByteArray, (Op.equalIn 9999 9 (.string a) (.string b)).run Try.prog w = .ok (a.toList == b.toList) w := fun a b => run_equalIn_string (P := Try.prog) w 9998 9 a b Try.underlying9
    have key := eqFields_cons (P := Try.prog) 9999 #[.int .i64 c1, .int .i64 k1, .int .u64 i1, .int .u64 v1, .int .u64 e1, .string s1, .string t1] #[.int .i64 c2, .int .i64 k2, .int .u64 i2, .int .u64 v2, .int .u64 e2, .string s2, .string t2]
    have := key f0 _ _ _ _ w n0 (by rw [t0, o0]; exact hpi _ 0 _ rfl) (by rw [t0, o0]; exact hpi _ 0 _ rfl) (by rw [t0]; exact hqi _ _) _
      (key f1 _ _ _ _ w n1 (by rw [t1', o1]; exact hpi _ 1 _ rfl) (by rw [t1', o1]; exact hpi _ 1 _ rfl) (by rw [t1']; exact hqi _ _) _
      (key f2 _ _ _ _ w n2 (by rw [t2', o2]; exact hpu _ 2 _ rfl) (by rw [t2', o2]; exact hpu _ 2 _ rfl) (by rw [t2']; exact hqu _ _) _
      (key f3 _ _ _ _ w n3 (by rw [t3, o3]; exact hpu _ 3 _ rfl) (by rw [t3, o3]; exact hpu _ 3 _ rfl) (by rw [t3]; exact hqu _ _) _
      (key f4 _ _ _ _ w n4 (by rw [t4, o4]; exact hpu _ 4 _ rfl) (by rw [t4, o4]; exact hpu _ 4 _ rfl) (by rw [t4]; exact hqu _ _) _
      (key f5 _ _ _ _ w n5 (by rw [t5, o5]; exact hps _ 5 _ rfl) (by rw [t5, o5]; exact hps _ 5 _ rfl) (by rw [t5]; exact hqs _ _) _
      (key f6 _ _ _ _ w n6 (by rw [t6, o6]; exact hps _ 6 _ rfl) (by rw [t6, o6]; exact hps _ 6 _ rfl) (by rw [t6]; exact hqs _ _) _ (eqFields_nil _ _ _ w)))))))
    rw [this]
    simp only [same, mkB, nat_beq, toList_beq, Bool.and_true]
theorem eql_block (c1 k1 : Int) (i1 v1 e1 : Nat) (s1 t1 : ByteArray) (c2 k2 : Int) (i2 v2 e2 : Nat) (s2 t2 : ByteArray) (w : World) :
    (binOp .eql 24 (blockV c1 k1 i1 v1 e1 s1 t1) (blockV c2 k2 i2 v2 e2 s2 t2)).run Try.prog w = .ok (.bool (same (mkB c1 k1 i1 v1 e1 s1 t1) (mkB c2 k2 i2 v2 e2 s2 t2))) w := by
  rw [run_eql_struct, block_equal]
  rfl
theorem blockGuard : Try.prog.eqGuardType Try.prog.depth 24 = false := by kernel_rfl
end Go.Proofs.Ytkhfcghnodggeaa
