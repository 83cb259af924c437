/- Law 6: awake. -/
import Derived.Test.YtkhfcghnodggeaaBlockI
import Derived.Test.YtkhfcghnodggeaaBlockJ
import Derived.Deep.RegionHeld3
namespace Go.Proofs.Ytkhfcghnodggeaa
open Go.RowKit Go.Proofs.FuMem Go.Proofs.FuCode Go.Proofs.FuClass Go.Proofs.FuBlock Go.Proofs.FuEq Go.Proofs.FuCrc
set_option maxRecDepth 100000
abbrev oneB : Block := mkB 0 1 1 1 1 ⟨#[97]⟩ ⟨#[98]⟩
theorem one_may : may oneB = true := by decide
theorem one_len : (lines oneB).length = 64 := by rw [lines_length]; rfl
theorem one_enc : enc oneB = (lines oneB, 0) := if_pos one_may
theorem one_head : (lines oneB).take 32 = head32 oneB := lines_head _ (by decide)
theorem one_at (i : Nat) (h : i < 32) : (lines oneB)[i]? = (head32 oneB)[i]? := by
  rw [← one_head, List.getElem?_take_of_lt h]
theorem one_0 : (lines oneB)[0]? = some 1 := (one_at 0 (by omega)).trans rfl
theorem one_2 : (lines oneB)[2]? = some 1 := (one_at 2 (by omega)).trans rfl
theorem one_back : backV (lines oneB) = .tuple #[blockV 0 1 1 1 1 ⟨#[97]⟩ ⟨#[98]⟩, .bool true] := by
  rw [backV_yes (reads_lines one_may), parse_lines (fine_of one_may)]
  rfl
theorem later_load_struct {w0 : World} {o : Oper} {ops : Array Oper} {rest : List Oper} {a : Act} {Q : Act → Prop} (hw : Region.wanted o (yielded ops a.tmps) = true) (x : Operand) (ho : o.op = .load 24 x) (b : Nat) (hx : a.eval x = .pointer (some ⟨b, 0, none⟩))
    (cls kind : Int) (id ver ep : Nat) (ks vs : ByteArray) (hc : Blk w0 b 24 #[.int .i64 cls, .int .i64 kind, .int .u64 id, .int .u64 ver, .int .u64 ep, .string ks, .string vs])
    (h : wpQuiet Try.prog ops (fun w' => ∃ p : Later w0, w' = p.w) Q rest (a.put o.dst (blockV cls kind id ver ep ks vs))) : wpQuiet Try.prog ops (fun w' => ∃ p : Later w0, w' = p.w) Q (o :: rest) a :=
  wpQuiet_step fun K hK => by
    rw [if_pos hw]
    refine ⟨blockV cls kind id ver ep ks vs, fun w' ⟨p, hp⟩ => ?_, hK _ h⟩
    subst hp
    have hp : Blk p.w b 24 _ := hc.only p.only (by simp)
    have hl := run_loadVar_row (P := Try.prog) p.w b 24 24 _ (0, 0) _ hp Try.underlying24 rfl (by kernel_rfl)
    unfold Oper.quietAt execOp
    simp only [ho, hx, Instr.loadAt, Instr.sureAddr, Sem.run_bind, Sem.run_pure, hl, Result.andThen_ok]
    exact ⟨rfl, rfl⟩
set_option maxHeartbeats 2000000 in
theorem law6_awake_of (HDEC : ∀ (A : Option Addr) (n c : Nat) (l : List UInt8) (w : World), Bs w A n l → n ≤ 1000000 → n ≤ c → Calls Try.prog 20 #[.slice A n c] w fun e w' => e = .returned (backV l) ∧ Only [] w w') (w : World) :
    Calls Try.prog 14 #[] w fun e w' => e = .returned (.bool true) ∧ Only [] w w' := by
  have HEN := Lib.hid (fun w => block_Encode 0 1 1 1 1 ⟨#[97]⟩ ⟨#[98]⟩ w (by omega) (by omega) (by omega) (by omega) (by show (1 : Nat) ≤ _; omega) (by show (1 : Nat) ≤ _; omega))
  have hen : enc (mkB 0 1 1 1 1 ⟨#[97]⟩ ⟨#[98]⟩) = (lines oneB, 0) := one_enc
  rw [hen] at HEN
  have HL := Lib.hid one_len
  have H0 := Lib.hid one_0
  have H2 := Lib.hid one_2
  have HBK := Lib.hid one_back
  have HD := Lib.hid HDEC
  clear hen HDEC
  generalize lines oneB = L at *
  go_enter Try.func14, Try.ntmps14
  go_wp2_with fail
  refine (law6_one _).mono ?_
  rintro e w1 ⟨rfl, o1⟩
  go_wp2_with fail
  refine (HEN.out _).mono ?_
  rintro e w2 ⟨v2, rfl, A, c, hv, ho, o2⟩
  have hn := HL.out
  rw [hn] at hv ho
  subst hv
  obtain ⟨A', c', hvv, hcc, _⟩ := own_slice ho
  cases hvv
  have hb : Bs w2 A 64 L := Sl.of_own ho
  have HB := Lib.hid hb
  have O2 := Lib.hid (o1.trans0 o2)
  clear hb ho o1 o2
  go_wp2_with fail
  refine (HD.out A 64 c L w2 HB.out (by omega) hcc).mono ?_
  generalize backV L = bv at HBK ⊢
  have hbv := HBK.out
  subst hbv
  rintro e w3 ⟨rfl, o3⟩
  have O3 := Lib.hid (O2.out.trans0 o3)
  have hb3 := HB.out.only0 o3
  obtain ⟨b, off, rfl, hcell⟩ := hb3.at_ (by omega)
  have x0 := hcell 0 (by omega)
  have x2 := hcell 2 (by omega)
  have e0 : L[0] = 1 := by have := H0.out; rw [List.getElem?_eq_getElem (by omega)] at this; simpa using this
  have e2 : L[2] = 1 := by have := H2.out; rw [List.getElem?_eq_getElem (by omega)] at this; simpa using this
  rw [e0, Nat.add_zero] at x0
  rw [e2] at x2
  have hbw := hb3.lt (by omega) rfl
  have HB3 := Lib.hid hb3
  clear e0 e2 hcell hb3 o3 hn
  have o4 : Only [] w3 (w3.alloc (.cells #[.int .i64 0, .int .i64 1, .int .u64 1, .int .u64 1, .int .u64 1, .string ⟨#[97]⟩, .string ⟨#[98]⟩] 24)) := (Only.refl _ _).alloc _
  have BX := Lib.hid (Blk.new w3 24 #[.int .i64 0, .int .i64 1, .int .u64 1, .int .u64 1, .int .u64 1, .string ⟨#[97]⟩, .string ⟨#[98]⟩])
  have X0 := Lib.hid ((cell_only o4 hbw (by simp)).trans x0)
  have X2 := Lib.hid ((cell_only o4 hbw (by simp)).trans x2)
  have O4 := Lib.hid (O3.out.trans0 o4)
  have HQ := Lib.hid (fun w => eql_block 0 1 1 1 1 ⟨#[97]⟩ ⟨#[98]⟩ 0 1 1 1 1 ⟨#[97]⟩ ⟨#[98]⟩ w)
  have HG := Lib.hid (fun (w : World) (x y : Operand) => run_eqGuard_agg (P := Try.prog) w .eql 24 x y #[.int .i64 0, .int .i64 1, .int .u64 1, .int .u64 1, .int .u64 1, .string ⟨#[97]⟩, .string ⟨#[98]⟩] #[.int .i64 0, .int .i64 1, .int .u64 1, .int .u64 1, .int .u64 1, .string ⟨#[97]⟩, .string ⟨#[98]⟩] blockGuard)
  clear x0 x2 o4
  go_wp2
  generalize w3.heap.size = g at BX X0 X2 O4 ⊢
  generalize w3.alloc (.cells #[.int .i64 0, .int .i64 1, .int .u64 1, .int .u64 1, .int .u64 1, .string ⟨#[97]⟩, .string ⟨#[98]⟩] 24) = w4 at BX X0 X2 O4 ⊢
  have c0 : ∀ p : Later w4, p.w.cell? ⟨b, off, none⟩ = some (.int .u8 1) := fun p => p.cell X0.out
  have c2 : ∀ p : Later w4, p.w.cell? ⟨b, off + 2, none⟩ = some (.int .u8 1) := fun p => p.cell X2.out
  have hsame : same (mkB 0 1 1 1 1 ⟨#[97]⟩ ⟨#[98]⟩) (mkB 0 1 1 1 1 ⟨#[97]⟩ ⟨#[98]⟩) = true := (same_iff _ _).2 rfl
  have hq : ∀ w, (binOp .eql 24 (blockV 0 1 1 1 1 ⟨#[97]⟩ ⟨#[98]⟩) (blockV 0 1 1 1 1 ⟨#[97]⟩ ⟨#[98]⟩)).run Try.prog w = .ok (.bool true) w := fun w => (HQ.out w).trans (by rw [hsame])
  clear hsame
  have hg := HG.out
  refine wp_region_later w4 (by kernel_rfl) (by kernel_rfl) ?_
  iterate 23 (quiet_step (fail))
  refine later_load_struct rfl (.tmp 3) rfl g rfl 0 1 1 1 1 ⟨#[97]⟩ ⟨#[98]⟩ BX.out ?_
  repeat (quiet_step (fail))
  quiet_step (exact Calls.later (law6_one _))
  repeat (quiet_step (fail))
  refine wpQuiet_nil ?_
  intro _ hw'
  obtain ⟨p, hw''⟩ := hw'
  subst hw''
  have HP := Lib.hid (O4.out.trans0 p.only)
  go_wp2
  go_ret
  exact ⟨rfl, HP.out⟩
end Go.Proofs.Ytkhfcghnodggeaa
