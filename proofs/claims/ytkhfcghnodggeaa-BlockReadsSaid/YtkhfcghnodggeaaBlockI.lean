/- What Decode tells. -/
import Derived.Test.YtkhfcghnodggeaaBlockH
namespace Go.Proofs.FuBlock
open Go.Proofs.FuCode Go.Proofs.FuCrc Go.Proofs.FuClass
def blockOf (b : Block) : Value := .agg #[.int .i64 b.cls, .int .i64 b.kind, .int .u64 b.id, .int .u64 b.ver, .int .u64 b.ep, .string ⟨b.key.toArray⟩, .string ⟨b.val.toArray⟩]
/-- what Decode tells -/
def backV (l : List UInt8) : Value := .tuple #[blockOf (dec l), .bool (decide (reads l))]
def noneV : Value := .tuple #[.agg #[.int .i64 0, .int .i64 0, .int .u64 0, .int .u64 0, .int .u64 0, .string ⟨#[]⟩, .string ⟨#[]⟩], .bool false]
theorem backV_no {l : List UInt8} (h : ¬ reads l) : backV l = noneV := by
  unfold backV dec
  rw [if_neg h, decide_eq_false h]
  rfl
theorem backV_yes {l : List UInt8} (h : reads l) : backV l = .tuple #[blockOf (parse l), .bool true] := by
  unfold backV dec
  rw [if_pos h, decide_eq_true h]
theorem headOf_take {l : List UInt8} (h : 64 ≤ l.length) : (isHead (l.take 64) ↔ l.getD 0 0 = 1 ∧ (l.getD 1 0).toNat ≤ 3 ∧ (l.getD 2 0).toNat ≤ 3) := by
  unfold isHead
  rw [getD_take (by omega), getD_take (by omega), getD_take (by omega), List.length_take]
  exact ⟨fun x => x.2, fun x => ⟨by omega, x⟩⟩
theorem headOf_yes {l : List UInt8} (h : isHead (l.take 64)) : headOf (l.take 64) = .tuple #[.int .i64 (l.getD 1 0).toNat, .int .i64 (l.getD 2 0).toNat, .bool true] := by
  unfold headOf
  rw [if_pos h, getD_take (by omega), getD_take (by omega)]
theorem headOf_no {l : List UInt8} (h : ¬ isHead l) : headOf l = .tuple #[.int .i64 0, .int .i64 0, .bool false] := if_neg h
end Go.Proofs.FuBlock
namespace Go.Proofs.Ytkhfcghnodggeaa
open Go.RowKit Go.Proofs.FuMem Go.Proofs.FuCode Go.Proofs.FuClass Go.Proofs.FuBlock Go.Proofs.FuEq Go.Proofs.FuCrc
set_option maxRecDepth 100000
theorem blockInfo : (Try.prog.info? 24).map (·.size) = some 7 := by kernel_rfl
theorem blockV_one (cls kind : Int) (id ver ep : Nat) (ks vs : ByteArray) : (#[.int .i64 cls, .int .i64 kind, .int .u64 id, .int .u64 ver, .int .u64 ep, .string ks, .string vs] : Array Value).all (·.oneCell') = true := by
  simp [Value.oneCell']
/-- a whole block is written over a block -/
theorem wpList_store_all {P : Program} {w : World} {ops : Array Oper} {rest : List Oper} {o : Oper} {a : Act} {Q : Exit → Act → World → Prop} (hgd : o.guard = none) (T : TypeId) (x y : Operand) (ho : o.op = .store T x y) (g : Nat) (vs : Array Value) (hx : a.eval x = .pointer (some ⟨g, 0, none⟩)) (hy : a.eval y = .agg vs)
    (t : TypeId) (cs : Array Value) (hb : Blk w g t cs) (hfit : vs.size = cs.size) (hi : (P.info? T).map (·.size) = some vs.size) (h1 : vs.all (·.oneCell') = true)
    (h : ∀ w', Blk w' g t vs → Only [g] w w' → wpList P ops Q rest (a.put o.dst undef) w') : wpList P ops Q (o :: rest) a w :=
  wpList_store_blk hgd T x y ho g 0 vs hx hy t cs hb (by omega) hi h1 fun w' hb' ho' _ => h w' (by
    have e : FuMem.splice cs 0 vs.toList = vs := by
      unfold FuMem.splice
      apply Array.ext'
      simp
      omega
    rwa [e] at hb') ho'
/-- the end of Decode: the result variable holds the block -/
theorem dec_end {w' : World} {g : Nat} {cs : Array Value} {u : Value} {tmps : Array Value} (hb : Blk w' g 24 cs) (h2 : tmps.getD 2 undef = .pointer (some ⟨g, 0, none⟩)) (h3 : tmps.getD 3 undef = u) (hs : cs.size = 7) :
    (results Try.f20 tmps).run Try.prog w' = .ok (.tuple #[.agg cs, u]) w' := by
  rw [results_cell_tmp rfl]
  rw [h2, h3]
  have hl := run_loadVar_row (P := Try.prog) w' g 24 24 cs (0, 0) _ hb Try.underlying24 rfl (by rw [hs]; exact blockInfo)
  simp [asAddr, hl]
end Go.Proofs.Ytkhfcghnodggeaa
