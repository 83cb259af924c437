/- Package image: kept, bytes, lines; what is carried out inside a fence by the laws of the plain walk. -/
import Derived.RangeFuncNested
import Derived.RangeFuncBound
import Derived.RangeFuncCalls
import Derived.RangeFuncLeaves
import Derived.RangeFuncBox
import Derived.Shelf.Abstract
import Derived.WalkKit
import Derived.OwnWalkIn
import Derived.TacticsInMore
import Derived.LoopNIn
import Derived.LoopIn
import Derived.Laws.StructEq
import Derived.Lib.SlBytesConst
import Derived.ArgAppend
import Derived.Deep.RegionHeld3
import Derived.Test.YtkbgoloedlpflaaGImageBack1
import Derived.Test.YtkbgoloedlpflaaGImageBack2
import Derived.Test.YtkbgoloedlpflaaGImageBack3
namespace Go.Proofs.FuFence
open Go.RowKit Go.Proofs.FuMem
/-- what is asked behind an operation that yields -/
def normQ (K : Act → World → Prop) : Exit → Act → World → Prop
  | .normal, a, w => K a w
  | _, _, _ => False
/-- the wide fence, in a round or not -/
inductive WideF : Fence → Prop
  | out : WideF Fence.wide
  | round (l : Nat) : WideF (Fence.wide.inRound l)
theorem rowsIn_wide {n : Nat} {P : Program} {row : String} {args : Array Value} {w : World} {R : Value → World → Prop} (h : Rows P row args w R) : RowsIn Fence.wide n P row args w R := by
  intro c cs _
  obtain ⟨v, w', r, s⟩ := h c cs
  exact ⟨v, w', r, stepsIn_wide.2 s⟩
theorem operIn_of_wp {F : Fence} (hF : WideF F) {n : Nat} {P : Program} {o : Oper} {a : Act} {w : World} {K K0 : Act → World → Prop} {Q : Exit → Act → World → Prop} (hd : ∀ c, o.op ≠ .defer c) (h : o.wp P a w K (normQ K0)) : o.wpIn F n P a w K Q := by
  have hfn : ∀ f, F.fn f := fun f => by cases hF <;> exact trivial
  have hdp : ¬ F.depth.isSome = true := by cases hF <;> simp [Fence.wide, Fence.inRound]
  unfold Oper.wp at h
  unfold Oper.wpIn
  rw [Oper.semAt_eq _ _ _ hd]
  refine ⟨fun f _ => hfn f, ?_⟩
  generalize (execOp a.eval o).run P w = r at *
  have hc : ∀ {f : FuncId} {args : Array Value} {w : World} {R R' : Ending → World → Prop}, (∀ e w, R e w → R' e w) → Calls P f args w R → CallsIn F (n - 1) P f args w R' := fun hr hx => by
    cases hF
    · exact (callsIn_wide.2 hx).mono hr
    · exact CallsIn.inRound _ ((callsIn_wide.2 hx).mono hr)
  have hrw : ∀ {row : String} {args : Array Value} {w : World} {R : Value → World → Prop}, Rows P row args w R → RowsIn F (n - 1) P row args w R := fun hx => by
    cases hF
    · exact rowsIn_wide hx
    · exact rowsIn_wide hx
  match r, h with
  | .ok (.value v) w', h => exact h
  | .ok .skip w', h => exact h
  | .ok (.defer d) w', h => exact h
  | .ok (.enter f args) w', h =>
    refine ⟨fun e => absurd e hdp, hc ?_ h⟩
    intro e w hx
    cases e with
    | returned v => exact hx
    | panicked chain => exact hx.elim
    | outgrown =>
      obtain ⟨_, _, hx⟩ := hx
      exact hx.elim
  | .ok (.row row args) w', h => exact ⟨fun e => absurd e hdp, hrw h⟩
  | .halt (.panic v) w', h => exact h.elim
theorem wpListIn_of_wp {F : Fence} (hF : WideF F) {n : Nat} {P : Program} {ops : Array Oper} {rest : List Oper} {o : Oper} {a : Act} {w : World} {Q : Exit → Act → World → Prop} (hw : Region.wanted o (yielded ops a.tmps) = true) (hd : ∀ c, o.op ≠ .defer c)
    (h : o.wp P a w (wpListIn F n P ops Q rest) (normQ (wpListIn F n P ops Q rest))) : wpListIn F n P ops Q (o :: rest) a w := by
  unfold wpListIn
  rw [if_pos hw]
  exact operIn_of_wp hF hd h
/-- a law of the plain walk serves in the fence -/
theorem wpListIn_of_list {F : Fence} (hF : WideF F) {n : Nat} {P : Program} {ops : Array Oper} {rest : List Oper} {o : Oper} {a : Act} {w : World} {Q : Exit → Act → World → Prop} (hg : o.guard = none) (hd : ∀ c, o.op ≠ .defer c)
    (h : wpList P ops (normQ (wpListIn F n P ops Q rest)) [o] a w) : wpListIn F n P ops Q (o :: rest) a w := by
  have hw : Region.wanted o (yielded ops a.tmps) = true := by simp [Region.wanted, hg]
  unfold wpList at h
  rw [if_pos hw] at h
  rcases h with h | ⟨_, h⟩
  · exact wpListIn_of_wp hF hw hd h
  · obtain ⟨_, _, h⟩ := h
    exact h.elim
theorem wpListIn_skipW {F : Fence} (hF : WideF F) {n : Nat} {P : Program} {ops : Array Oper} {rest : List Oper} {o : Oper} {a : Act} {w : World} {Q : Exit → Act → World → Prop} (hw : Region.wanted o (yielded ops a.tmps) = false)
    (h : wpListIn F n P ops Q rest (a.put o.dst undef) w) : wpListIn F n P ops Q (o :: rest) a w := by
  simp only [wpListIn, hw]
  exact ⟨fun f _ => by cases hF <;> exact trivial, h⟩
/-- a region that draws its order: what holds of the plain walk holds in the fence -/
theorem wpAnyIn_of_wpAny {F : Fence} (hF : WideF F) {n : Nat} {P : Program} {md : Region.Mode} {ops : Array Oper} {Q : Exit → Act → World → Prop} (hd : ∀ (i : Nat) (o : Oper), ops[i]? = some o → ∀ c, o.op ≠ .defer c) :
    ∀ (fuel : Nat) (listed : Array Bool) (a : Act) (w : World), wpAny P md ops (normQ (Q .normal)) fuel listed a w → wpAnyIn F n P md ops Q fuel listed a w := by
  have hfn : ∀ f, F.fn f := fun f => by cases hF <;> exact trivial
  intro fuel
  induction fuel with
  | zero => exact fun listed a w h => ⟨h.1, h.2⟩
  | succ fuel ih =>
    intro listed a w h
    refine ⟨fun e => h.1 e, fun i hi => ?_⟩
    have h2 := h.2 i hi
    unfold wpOp at h2
    unfold wpOpIn
    cases ho : ops[i]? with
    | none =>
      rw [ho] at h2
      exact ih _ _ _ h2
    | some o =>
      rw [ho] at h2
      simp only at h2 ⊢
      by_cases hw : Region.wanted o (yielded ops a.tmps) = true
      · rw [if_pos hw] at h2 ⊢
        rcases h2 with h2 | ⟨_, h2⟩
        · exact Oper.wpIn_mono (fun a w => ih _ a w) (operIn_of_wp hF (hd i o ho) h2)
        · obtain ⟨_, _, h2⟩ := h2
          exact h2.elim
      · rw [if_neg hw] at h2 ⊢
        exact ⟨fun f _ => hfn f, ih _ _ _ h2⟩
theorem regionIn_any {F : Fence} (hF : WideF F) {n : Nat} {P : Program} {id : Nat} {l : List Oper} {Q : Exit → Act → World → Prop} {a : Act} {w : World} (hm : P.follows .mixedOrders = true) (hd : l.all (fun o => match o.op with | .defer _ => false | _ => true) = true)
    (h : wpAny P .any l.toArray (normQ (Q .normal)) l.toArray.size (Array.replicate l.toArray.size false) a w.drew) : (Code.region id l.toArray true).wpIn F n P Q a w := by
  refine wpIn_region_any hm (wpAnyIn_of_wpAny hF (fun i o ho c hc => ?_) _ _ _ _ h)
  have hmem : o ∈ l := by
    have : l[i]? = some o := by simpa using ho
    exact List.mem_of_getElem? this
  have := List.all_eq_true.1 hd o hmem
  rw [hc] at this
  cases this
/-- append, where its run is known, as an operation -/
theorem wp_append_run {P : Program} {o : Oper} {a : Act} {w : World} {K : Act → World → Prop} {Q : Exit → Act → World → Prop} (s x : Operand) (t : TypeId)
    (ho : o.op = .call { callee := .builtin .append, args := #[s, x], argTypes := #[t, t] }) (v u : Value) (hs : a.eval s = v) (hx : a.eval x = u) (v' : Value) (w' : World)
    (hrun : (Builtin.append_ #[t, t] o.type #[v, u]).run P w = .ok v' w') (h : K (a.put o.dst v') w') : o.wp P a w K Q := by
  unfold Oper.wp execOp
  simp only [ho, resolve, invoke, builtin, Sem.run_bind, Sem.run_pure, Result.andThen_ok, List.map_toArray, List.map_cons, List.map_nil, hs, hx, hrun]
  exact h
theorem keepsFrom_only {w w' : World} {T : List Nat} (h : Only T w w') (hT : ∀ b ∈ T, ∀ o, w.heap[b]? = some o → o.isCells = true) (B : Nat) : KeepsFrom B w w' :=
  ⟨h.size, fun k o _ hk hc => (h.block k (Array.getElem?_eq_some_iff.1 hk).1 (fun hm => by have := hT k hm o hk; rw [this] at hc; cases hc)).trans hk⟩
theorem Only.grown {w w' : World} (h : Only [] w w') : w.grownBy w' none :=
  ⟨h.os, h.tape, h.output, h.size, fun k hk _ => h.block k hk (by simp)⟩
end Go.Proofs.FuFence
namespace Go.Proofs.Ytkbgoloedlpflaa
open Go.RowKit Go.Proofs.FuMem Go.Proofs.FuNvm Go.Proofs.FuCode
set_option maxRecDepth 100000
theorem own_ge {w : World} {base : Nat} {e : TypeId} {size n : Nat} {v : Value} {xs : List Value} (h : w.ownsRow base e size v n xs) (k : Nat) (hk : v.ownBlock = some k) : base ≤ k := by
  rcases h.2 with ⟨e1, _⟩ | ⟨g, cap, cur, e1, hbg, _⟩
  · rw [e1] at hk
    simp [Value.ownBlock] at hk
  · rw [e1] at hk
    simp [Value.ownBlock] at hk
    omega
/-- append to a slice of the call's own: what else turns -/
theorem append_own3 {P : Program} (w : World) {w0 : World} {T : List Nat} (on : Only T w0 w) (t ty e : TypeId) (i : TypeInfo) (z : Value) (bytes : Nat) (ht : P.underlying t = some (.slice e)) (hi : P.info? e = some i) (hz : i.zero = some z)
    (hsize : i.size = 1) (hby : i.bytes = bytes) (hzs : z.cells.size = 1)
    (v : Value) (n : Nat) (xs : List Value) (hown : w.ownsRow w0.heap.size e 1 v n xs)
    (A : Option Addr) (m c : Nat) (news : List Value) (hr : Sl w A m news) (h1 : ∀ u ∈ news, u.oneCell' = true)
    (h63 : n + m ≤ maxLen) (hbytes : (n + m) * bytes ≤ 140737488355328) :
    ∃ A' c' w', (Builtin.append_ #[t, t] ty #[v, .slice A m c]).run P w = .ok (.slice A' (n + m) c') w' ∧ w'.ownsRow w0.heap.size e 1 (.slice A' (n + m) c') (n + m) (xs ++ news) ∧
      Only T w0 w' ∧ ∃ U, Only U w w' ∧ ∀ b ∈ U, w0.heap.size ≤ b := by
  obtain ⟨v', w', hrun, h2, h3, _⟩ := run_append_sl (P := P) w w0.heap.size t ty e i z bytes ht hi hz hsize hby hzs v n xs hown A m c news hr h1 h63 hbytes on.size
  obtain ⟨A', c', rfl, _, _⟩ := own_slice h2
  obtain ⟨A1, c1, rfl, _, hb1⟩ := own_slice hown
  have hU : Only ((Value.slice A1 n c1).ownBlock.toList) w w' := Only.of_grown h3 fun k hk => .inl (by simp [hk])
  have hge : ∀ b ∈ (Value.slice A1 n c1).ownBlock.toList, w0.heap.size ≤ b := fun b hb => own_ge hown b (by simpa using hb)
  exact ⟨A', c', w', hrun, h2, on.trans hU fun b hb => .inr (hge b hb), _, hU, hge⟩
theorem imgZero : (Try.prog.info? 70).map (·.zero) = some (some (arrV (List.replicate 64 0))) := by kernel_rfl
theorem imgSize : (Try.prog.info? 70).map (·.size) = some 64 := by kernel_rfl
theorem imgByte : (Try.prog.info? 5).map (·.size) = some 1 := by kernel_rfl
/-- one result, an array in memory -/
theorem results_arr {P : Program} {fn : Func} {p : Tmp} {ty : TypeId} (h : fn.results = #[.cell p ty]) (tmps : Array Value) (w : World) (g : Nat) (l : List UInt8) (hb : Arr w g ty l)
    (hp : tmps.getD p undef = .pointer (some ⟨g, 0, none⟩)) (n : Nat) (e : TypeId) (hu : P.underlying ty = some (.array n e)) (hi : (P.info? ty).map (·.size) = some l.length) :
    (results fn tmps).run P w = .ok (arrV l) w := by
  have hp' : tmps[p]?.getD undef = .pointer (some ⟨g, 0, none⟩) := by simpa using hp
  have hr := run_loadVar_row (P := P) w g ty ty (l.map B).toArray (0, 0) _ hb hu rfl (by simpa using hi)
  simp [results, h, hp', asAddr, hr, arrV]
theorem img_kept (g cb cap : Nat) (D : Dev) (i : Nat) (x : Line) (hx : D.lines[i]? = some x) (w : World) (hd : DevAt w g cb cap D) :
    Calls Try.prog 56 #[.pointer (some ⟨g, 0, none⟩), .int .i64 i] w fun e w' => e = .returned (arrV x.kept) ∧ Only [] w w' := by
  have hl : x.kept.length = 64 := (hd.ok x (List.mem_of_getElem? hx)).2.1
  have HDU := Lib.hid (fun w hd => nvm_Durable g cb cap D i x hx w hd)
  have HD := Lib.hid hd
  have HSZ := Lib.hid (show (Try.prog.info? 70).map (·.size) = some x.kept.length by rw [hl]; exact imgSize)
  have HL := Lib.hid hl
  clear hd hx hl
  generalize x.kept = l at *
  go_enter Try.func56, Try.ntmps56
  go_wp2_with (first
    | ((with_reducible show wpList _ _ _ (Oper.mk (some 4) _ _ _ _ _ :: _) _ _); refine wpList_alloc_arr rfl 70 rfl _ imgZero ?_; intro w1 hb1 ho1 hs1)
    | ((with_reducible show wpList _ _ _ (Oper.mk (some 5) _ _ _ _ _ :: _) _ _); refine wpList_alloc_arr rfl 70 rfl _ imgZero ?_; intro w2 hb2 ho2 hs2))
  have O2 := Lib.hid (ho1.trans0 ho2)
  refine (HDU.out w2 (HD.out.only0 O2.out)).mono ?_
  rintro e w3 ⟨v3, rfl, m3⟩
  obtain ⟨A3, c3, rfl, b3, o3⟩ := m3
  have hb13 := (hb1.only ho2 (by simp)).only o3 (by simp)
  have hb23 := hb2.only o3 (by simp)
  have H13 := Lib.hid hb13
  have H23 := Lib.hid hb23
  have X3 := Lib.hid (bs_own b3)
  have O3 := Lib.hid (O2.out.trans0 o3)
  have hne : w.heap.size ≠ w1.heap.size := by omega
  have hs3 := o3.size
  rw [hs1] at H23 hne
  rw [HL.out] at X3 ⊢
  clear hb1 hb2 ho1 ho2 hb13 hb23 b3 o3
  go_wp2_with (first
    | ((with_reducible show wpList _ _ _ (Oper.mk (some 16) _ _ _ _ _ :: _) _ _); refine wpList_copy_arr rfl (.tmp 14) (.tmp 15) 22 22 rfl 5 Try.underlying22 imgByte (w.heap.size + 1) 0 64 64 A3 64 c3 rfl rfl _ _ H23.out (by simp) l X3.out ?_; intro w4 hb4 ho4 hs4; rw [over_all l _ 64 HL.out (by simp)] at hb4; have hb14 := H13.out.only ho4 (by simp); have H4 := Lib.hid (Arr.bs hb4))
    | ((with_reducible show wpList _ _ _ (Oper.mk (some 17) _ _ _ _ _ :: _) _ _); refine wpList_load_arr rfl 70 (.tmp 5) rfl (w.heap.size + 1) 0 rfl l H4.out 64 5 Try.underlying70 HSZ.out ?_)
    | ((with_reducible show wpList _ _ _ (Oper.mk none _ _ _ _ _ :: _) _ _); refine wpList_store_arr rfl 70 (.tmp 4) (.tmp 17) rfl w.heap.size l rfl rfl _ _ hb14 (by rw [HL.out]; simp) HSZ.out ?_; intro w6 hb6 ho6 hs6))
  refine bodyPost_ret (results_arr rfl _ _ _ _ hb6 rfl 64 5 Try.underlying70 HSZ.out) rfl ⟨rfl, (O3.out.trans ho4 (by simp)).trans ho6 (by simp)⟩
theorem img_bytes (v n : Nat) (w : World) (h1 : 1 ≤ n) (h8 : n ≤ 8) (hv : v < 256 ^ n) :
    Calls Try.prog 50 #[.int .u64 v, .int .i64 n] w fun e w' => ∃ x, e = .returned x ∧ MadeB w (lay n v) x w' := by
  obtain ⟨i0, hi, hz0, hz1, hz2⟩ := info_parts Try.byteInfo
  obtain ⟨w1, hmk, hb1, ho1, hs1⟩ := make_blk (P := Try.prog) w 22 5 i0 _ Try.underlying22 hi hz0 hz1 rfl .i64 .i64 n n (by omega) (by rw [hz2]; omega) (by omega)
  have hbs : Bs w1 (some ⟨w.heap.size, 0, none⟩) n (List.replicate n 0) := by
    refine Sl.of_blk hb1 0 ?_ (by simp)
    simp [B]
  have hv8 : v < 18446744073709551616 := Nat.lt_of_lt_of_le hv (pow_le8 n h8)
  have HP := Lib.hid (code_Put (some ⟨w.heap.size, 0, none⟩) n n (List.replicate n 0) 0 n v w1 hbs (by omega) (by omega) (by omega) hv8)
  have HO1 := Lib.hid ho1
  have hput : put (List.replicate n 0) 0 n v = (lay n v, 0) := by
    unfold put wrong
    have e1 : (if (n : Int) < 1 ∨ 8 < (n : Int) then 1 else if (0 : Int) < 0 ∨ ((List.replicate n (0 : UInt8)).length : Int) - n < 0 then 2 else 0) = 0 := by
      rw [List.length_replicate, if_neg (by omega), if_neg (by omega)]
    rw [e1, Int.toNat_natCast, if_neg (by simp), if_neg (by omega), show Int.toNat 0 = 0 from rfl]
    have := over_all (lay n v) (List.replicate n 0) n (lay_length n v) (by simp)
    rw [List.take_of_length_le (by rw [lay_length]; exact Nat.le_refl _)] at this
    rw [this]
  rw [hput] at HP
  have HLN := Lib.hid (lay_length n v)
  clear hbs hb1 hi hz0 hz1 hz2 hput hv hv8
  generalize lay n v = l at *
  go_enter Try.func50, Try.ntmps50
  go_wp2_with fail
  refine HP.out.mono ?_
  rintro e w2 ⟨x, rfl, A2, c2, rfl, b2, o2⟩
  have B2 := Lib.hid (World.ownsRow.mono b2 ho1.size)
  have O2 := Lib.hid (HO1.out.trans0 o2)
  clear b2 o2
  go_wp2
  go_ret
  exact ⟨_, rfl, A2, c2, rfl, B2.out, O2.out⟩
theorem img_lines (g : Nat) (w : World) :
    Calls Try.prog 51 #[.pointer (some ⟨g, 0, none⟩)] w fun e w' => e = .returned (.func (.func 69) #[] #[.pointer (some ⟨w.heap.size, 0, none⟩)]) ∧ w' = w.alloc (.cells #[.pointer (some ⟨g, 0, none⟩)] 25) := by
  have hmf : ∀ (fn : Fn) (first cap : Array Value) (w : World), (Instr.makeFunc fn first cap).run Try.prog w = .ok (.func fn first cap) w := fun _ _ _ _ => rfl
  go_enter Try.func51, Try.ntmps51
  go_wp2
  go_ret
  exact ⟨rfl, rfl⟩
theorem img_neq (l k : List UInt8) (hl : l.length = 64) (hk : k.length = 64) (w : World) : (binOp .neq 70 (arrV l) (arrV k)).run Try.prog w = .ok (.bool (l != k)) w := by
  obtain ⟨i0, hi, hz0, hz1, hz2⟩ := info_parts Try.byteInfo
  exact run_neq_arr Try.underlying70 Try.underlying5 i0 hi hz1 l k hl hk w
theorem imgGuard : Try.prog.eqGuardType Try.prog.depth 70 = false := by kernel_rfl
end Go.Proofs.Ytkbgoloedlpflaa
/- Blocks and their lines in plain Lean. No program in sight. -/
namespace Go.Proofs.FuBlock
open Go.Proofs.FuCrc Go.Proofs.FuCode Go.Proofs.FuClass
structure Block where
  cls : Int
  kind : Int
  id : Nat
  ver : Nat
  ep : Nat
  key : List UInt8
  val : List UInt8
def u8 (x : Int) : UInt8 := UInt8.ofNat (x % 256).toNat
theorem u8_toNat (x : Int) : ((u8 x).toNat : Int) = x % 256 := by
  unfold u8
  rw [UInt8.toNat_ofNat_of_lt' (by show _ < 256; omega)]
  omega
def capN (c : Int) : Nat := (capOf c).toNat
theorem capN_val (c : Int) : (span c = 0 ∧ capN c = 0) ∨ (1 ≤ span c ∧ span c ≤ 8 ∧ capN c = 28 + 63 * (span c - 1)) := by
  have := capOf_val c
  unfold capN
  omega
def number (v : Nat) : Bool := decide (1 ≤ v) && decide (v ≤ 2305843009213693952)
def may (b : Block) : Bool :=
  decide (0 ≤ b.cls ∧ b.cls ≤ 3) &&
  if b.kind = 0 then decide (b.id = 0 ∧ b.ver = 0 ∧ b.ep = 0 ∧ b.key = [] ∧ b.val = [])
  else (number b.id && number b.ver && number b.ep) &&
    if b.kind = 1 then decide (1 ≤ b.key.length ∧ b.key.length ≤ 16 ∧ b.val.length ≤ 400 ∧ need (b.key.length + b.val.length : Nat) = b.cls)
    else if b.kind = 2 then decide (b.key.length = 0 ∧ b.val.length ≤ 400 ∧ need (b.key.length + b.val.length : Nat) = b.cls)
    else if b.kind = 3 then decide (b.key.length = 0 ∧ b.val.length = 0 ∧ b.cls = 0)
    else false
theorem need_fits {n : Nat} {c : Int} (h : need (n : Int) = c) (h0 : 0 ≤ c) : n ≤ capN c := by
  have hv := capOf_val c
  have hs := span_cases c
  unfold need at h
  unfold capN
  repeat' split at h
  all_goals omega
/-- what a block that may be is like -/
structure Fine (b : Block) : Prop where
  c0 : 0 ≤ b.cls
  c3 : b.cls ≤ 3
  k0 : 0 ≤ b.kind
  k3 : b.kind ≤ 3
  id : b.id < 18446744073709551616
  ver : b.ver < 18446744073709551616
  ep : b.ep < 18446744073709551616
  key : b.key.length ≤ 16
  val : b.val.length ≤ 400
  fit : b.key.length + b.val.length ≤ capN b.cls
theorem number_lt {v : Nat} (h : number v = true) : v < 18446744073709551616 := by
  unfold number at h
  simp at h
  omega
theorem fine_of {b : Block} (h : may b = true) : Fine b := by
  unfold may at h
  rw [Bool.and_eq_true, decide_eq_true_eq] at h
  obtain ⟨⟨h1, h2⟩, h⟩ := h
  split at h
  · rename_i hk
    rw [decide_eq_true_eq] at h
    obtain ⟨a, b', c, d, e⟩ := h
    refine ⟨h1, h2, by omega, by omega, by omega, by omega, by omega, by rw [d]; simp, by rw [e]; simp, by rw [d, e]; simp⟩
  · rw [Bool.and_eq_true, Bool.and_eq_true, Bool.and_eq_true] at h
    obtain ⟨⟨⟨n1, n2⟩, n3⟩, h⟩ := h
    have m1 := number_lt n1
    have m2 := number_lt n2
    have m3 := number_lt n3
    split at h
    · rename_i hk
      rw [decide_eq_true_eq] at h
      obtain ⟨a, b', c, d⟩ := h
      exact ⟨h1, h2, by omega, by omega, m1, m2, m3, b', c, need_fits d h1⟩
    · split at h
      · rename_i hk
        rw [decide_eq_true_eq] at h
        obtain ⟨a, c, d⟩ := h
        exact ⟨h1, h2, by omega, by omega, m1, m2, m3, by omega, c, need_fits d h1⟩
      · split at h
        · rename_i hk
          rw [decide_eq_true_eq] at h
          obtain ⟨a, c, d⟩ := h
          exact ⟨h1, h2, by omega, by omega, m1, m2, m3, by omega, by omega, by omega⟩
        · cases h
/-! ### lines -/
/-- the byte that stands at p, of a head, a sum, data -/
def byteAt (h s r : List UInt8) (p : Nat) : UInt8 :=
  if p < 32 then h.getD p 0 else if p < 36 then s.getD (p - 32) 0 else if p < 64 then r.getD (p - 36) 0 else if p % 64 = 0 then 2 else r.getD (28 + 63 * (p / 64 - 1) + (p % 64 - 1)) 0
def laid (h s r : List UInt8) (n : Nat) : List UInt8 := (List.range n).map (byteAt h s r)
def pos (i : Nat) : Nat := if i < 28 then 36 + i else 65 + 64 * ((i - 28) / 63) + (i - 28) % 63
/-- the data that stand in m lines -/
def dataOf (m : Nat) (x : List UInt8) : List UInt8 := (List.range (28 + 63 * (m - 1))).map fun i => x.getD (pos i) 0
theorem laid_length (h s r : List UInt8) (n : Nat) : (laid h s r n).length = n := by simp [laid]
theorem laid_get (h s r : List UInt8) {n p : Nat} (hp : p < n) : (laid h s r n).getD p 0 = byteAt h s r p := by
  simp [laid, List.getD, hp]
theorem laid_at (h s r : List UInt8) {n p : Nat} (hp : p < (laid h s r n).length) : (laid h s r n)[p] = byteAt h s r p := by
  simp [laid]
theorem laid_take (h s r : List UInt8) {n k : Nat} (hk : k ≤ n) : (laid h s r n).take k = laid h s r k := by
  unfold laid
  rw [← List.map_take, List.take_range, Nat.min_eq_left hk]
theorem laid_succ (h s r : List UInt8) (k : Nat) : laid h s r (k + 1) = laid h s r k ++ [byteAt h s r k] := by simp [laid, List.range_succ]
theorem getD_eq {l : List UInt8} {i : Nat} (hi : i < l.length) : l.getD i 0 = l[i] := by simp [List.getD, hi]
theorem laid_head {h : List UInt8} (hh : h.length = 32) (s r : List UInt8) {n : Nat} (hn : 64 ≤ n) : (laid h s r n).take 32 = h := by
  rw [laid_take h s r (by omega)]
  apply List.ext_getElem
  · rw [laid_length, hh]
  · intro i h1 h2
    rw [laid_at]
    unfold byteAt
    rw [if_pos (by omega), getD_eq h2]
theorem laid_sum (h : List UInt8) {s : List UInt8} (hs : s.length = 4) (r : List UInt8) {n : Nat} (hn : 64 ≤ n) : ((laid h s r n).drop 32).take 4 = s := by
  apply List.ext_getElem
  · rw [List.length_take, List.length_drop, laid_length, hs]
    omega
  · intro i h1 h2
    rw [List.getElem_take, List.getElem_drop, laid_at]
    unfold byteAt
    rw [if_neg (by omega), if_pos (by omega), getD_eq (by omega)]
    congr 1
    omega
theorem pos_lt {i m : Nat} (hm : 1 ≤ m) (hi : i < 28 + 63 * (m - 1)) : pos i < 64 * m := by
  unfold pos
  split <;> omega
theorem byteAt_pos (h s r : List UInt8) (i : Nat) : byteAt h s r (pos i) = r.getD i 0 := by
  unfold byteAt pos
  split
  · rw [if_neg (by omega), if_neg (by omega), if_pos (by omega), Nat.add_sub_cancel_left]
  · rw [if_neg (by omega), if_neg (by omega), if_neg (by omega), if_neg (by omega)]
    congr 1
    omega
theorem laid_data (h s : List UInt8) {r : List UInt8} {m n : Nat} (hm : 1 ≤ m) (hn : n = 64 * m) (hr : r.length = 28 + 63 * (m - 1)) : dataOf m (laid h s r n) = r := by
  subst hn
  unfold dataOf
  apply List.ext_getElem
  · simp [hr]
  · intro i h1 h2
    rw [List.getElem_map, List.getElem_range, laid_get _ _ _ (pos_lt hm (by omega)), byteAt_pos, getD_eq h2]
theorem pos_inj {i j : Nat} (h : pos i = pos j) : i = j := by
  unfold pos at h
  split at h <;> split at h <;> omega
theorem set_getD {l : List UInt8} {k : Nat} {v : UInt8} {p : Nat} (hk : k < l.length) : (l.set k v).getD p 0 = if p = k then v else l.getD p 0 := by
  simp only [List.getD, List.getElem?_set]
  by_cases e : k = p
  · subst e
    simp [hk]
  · rw [if_neg e, if_neg (fun h => e h.symm)]
theorem dataOf_set {m : Nat} {x : List UInt8} {k : Nat} {v : UInt8} (hk : k < x.length) : dataOf m (x.set k v) = (List.range (28 + 63 * (m - 1))).map fun i => if pos i = k then v else x.getD (pos i) 0 := by
  unfold dataOf
  apply List.map_congr_left
  intro i _
  exact set_getD hk
theorem dataOf_hit {m : Nat} {x : List UInt8} {k i : Nat} {v : UInt8} (hk : k < x.length) (hi : pos i = k) : dataOf m (x.set k v) = (dataOf m x).set i v := by
  rw [dataOf_set hk]
  unfold dataOf
  apply List.ext_getElem
  · simp
  · intro j h1 h2
    rw [List.getElem_map, List.getElem_range, List.getElem_set, List.getElem_map, List.getElem_range]
    by_cases e : i = j
    · subst e
      rw [if_pos hi, if_pos rfl]
    · rw [if_neg (fun h => e (pos_inj (hi.trans h.symm))), if_neg e]
theorem dataOf_miss {m : Nat} {x : List UInt8} {k : Nat} {v : UInt8} (hk : k < x.length) (hi : ∀ i, pos i ≠ k) : dataOf m (x.set k v) = dataOf m x := by
  rw [dataOf_set hk]
  unfold dataOf
  apply List.map_congr_left
  intro i _
  rw [if_neg (hi i)]
theorem pos_hit {k m : Nat} (h1 : 36 ≤ k) (h2 : k < 64 * m) (h3 : k < 64 ∨ k % 64 ≠ 0) : ∃ i, i < 28 + 63 * (m - 1) ∧ pos i = k := by
  by_cases h : k < 64
  · exact ⟨k - 36, by omega, by unfold pos; rw [if_pos (by omega)]; omega⟩
  · refine ⟨28 + 63 * (k / 64 - 1) + (k % 64 - 1), by omega, ?_⟩
    unfold pos
    rw [if_neg (by omega)]
    omega
theorem pos_miss {k : Nat} (h : k < 36 ∨ (64 ≤ k ∧ k % 64 = 0)) (i : Nat) : pos i ≠ k := by
  unfold pos
  split <;> omega
/-- of a line's bytes one is another one: its sum does not fit -/
theorem laid_turn {h s r h' s' r' : List UInt8} {m n k : Nat} {v : UInt8} (hm : 1 ≤ m) (hn : n = 64 * m) (hh : h.length = 32) (hh' : h'.length = 32) (hr : r.length = 28 + 63 * (m - 1)) (hr' : r'.length = 28 + 63 * (m - 1))
    (hs : s = lay 4 (crc (h ++ r))) (hs' : s' = lay 4 (crc (h' ++ r'))) (hk : k < n) (he : (laid h s r n).set k v = laid h' s' r' n) : v = (laid h s r n).getD k 0 := by
  have hl := laid_length h s r n
  have sl : s.length = 4 := by rw [hs, lay_length]
  have sl' : s'.length = 4 := by rw [hs', lay_length]
  have e1 : ((laid h s r n).set k v).take 32 = h' := by rw [he]; exact laid_head hh' s' r' (by omega)
  have e2 : (((laid h s r n).set k v).drop 32).take 4 = s' := by rw [he]; exact laid_sum h' sl' r' (by omega)
  have e3 : dataOf m ((laid h s r n).set k v) = r' := by rw [he]; exact laid_data h' s' hm hn hr'
  have f1 := laid_head hh s r (n := n) (by omega)
  have f2 := laid_sum h sl r (n := n) (by omega)
  have f3 := laid_data h s hm hn hr
  have crc_eq : s = s' → crc (h ++ r) = crc (h' ++ r') := fun e => by
    have := congrArg num (hs.symm.trans (e.trans hs'))
    rwa [num_lay_lt _ _ (by have := crc_lt (h ++ r); omega), num_lay_lt _ _ (by have := crc_lt (h' ++ r'); omega)] at this
  by_cases hne : v = (laid h s r n).getD k 0
  · exact hne
  exfalso
  by_cases k32 : k < 32
  · have s2 : s = s' := by
      rw [← f2, ← e2, List.drop_set, if_pos k32]
    have r2 : r = r' := by rw [← f3, ← e3, dataOf_miss (by omega) (pos_miss (by omega))]
    have h2 : h' = h.set k v := by rw [← e1, List.take_set, f1]
    have hc := crc_eq s2
    rw [h2, ← r2, ← List.set_append_left _ _ (by omega)] at hc
    refine crc_turn (h ++ r) k (by rw [List.length_append]; omega) v ?_ hc.symm
    rw [List.getElem_append_left (by omega)]
    rw [laid_get _ _ _ hk] at hne
    unfold byteAt at hne
    rwa [if_pos k32, getD_eq (by omega)] at hne
  by_cases k36 : k < 36
  · have h2 : h' = h := by rw [← e1, List.take_set_of_le (by omega)]; exact f1
    have r2 : r' = r := by rw [← f3, ← e3, dataOf_miss (by omega) (pos_miss (by omega))]
    have s2 : s' = s := by rw [hs', hs, h2, r2]
    have hg : (((laid h s r n).set k v).drop 32).take 4 = (((laid h s r n).drop 32).take 4) := by rw [e2, f2, s2]
    have := congrArg (fun l => l.getD (k - 32) 0) hg
    simp only [List.getD, List.getElem?_take, List.getElem?_drop] at this
    rw [if_pos (by omega), if_pos (by omega), show 32 + (k - 32) = k by omega, List.getElem?_set_self (by omega)] at this
    exact hne this
  by_cases kt : 64 ≤ k ∧ k % 64 = 0
  · have := congrArg (fun l => l.getD k 0) he
    rw [set_getD (by omega), if_pos rfl, laid_get _ _ _ hk] at this
    rw [laid_get _ _ _ hk] at hne
    unfold byteAt at this hne
    rw [if_neg k32, if_neg k36, if_neg (by omega), if_pos kt.2] at this hne
    exact hne this
  obtain ⟨i, hi, hp⟩ := pos_hit (k := k) (m := m) (by omega) (by omega) (by omega)
  have s2 : s = s' := by
    rw [← f2, ← e2]
    apply List.ext_getElem?
    intro j
    simp only [List.getElem?_take, List.getElem?_drop]
    split
    · rw [List.getElem?_set_ne (by omega)]
    · rfl
  have h2 : h' = h := by rw [← e1, List.take_set_of_le (by omega)]; exact f1
  have r2 : r' = r.set i v := by rw [← e3, dataOf_hit (by omega) hp, f3]
  have hc := crc_eq s2
  rw [h2, r2, show h ++ r.set i v = (h ++ r).set (h.length + i) v by rw [List.set_append_right _ _ (by omega), Nat.add_sub_cancel_left]] at hc
  refine crc_turn (h ++ r) (h.length + i) (by rw [List.length_append]; omega) v ?_ hc.symm
  rw [List.getElem_append_right (by omega)]
  rw [laid_get _ _ _ hk, ← hp, byteAt_pos, getD_eq (by omega)] at hne
  intro e
  apply hne
  rw [e]
  congr 1
  omega
/-! ### blocks -/
def head32 (b : Block) : List UInt8 := [1, u8 b.cls, u8 b.kind, u8 b.key.length] ++ lay 2 b.val.length ++ [0, 0] ++ lay 8 b.id ++ lay 8 b.ver ++ lay 8 b.ep
def pad (n : Nat) (l : List UInt8) : List UInt8 := l ++ List.replicate (n - l.length) 0
def room (b : Block) : List UInt8 := pad (capN b.cls) (b.key ++ b.val)
def sumOf (b : Block) : List UInt8 := lay 4 (crc (head32 b ++ room b))
def byteOf (b : Block) (p : Nat) : UInt8 := byteAt (head32 b) (sumOf b) (room b) p
def linesTo (b : Block) (n : Nat) : List UInt8 := laid (head32 b) (sumOf b) (room b) n
def lines (b : Block) : List UInt8 := linesTo b (64 * span b.cls)
theorem head32_length (b : Block) : (head32 b).length = 32 := by simp [head32, lay_length]
theorem pad_length {n : Nat} {l : List UInt8} (h : l.length ≤ n) : (pad n l).length = n := by simp [pad]; omega
theorem sumOf_length (b : Block) : (sumOf b).length = 4 := lay_length _ _
theorem room_length {b : Block} (h : b.key.length + b.val.length ≤ capN b.cls) : (room b).length = capN b.cls := pad_length (by simpa using h)
theorem lines_length (b : Block) : (lines b).length = 64 * span b.cls := laid_length _ _ _ _
def nought : Block := ⟨0, 0, 0, 0, 0, [], []⟩
def parse (x : List UInt8) : Block :=
  let d := dataOf (span (x.getD 1 0).toNat) x
  ⟨(x.getD 1 0).toNat, (x.getD 2 0).toNat, num ((x.drop 8).take 8), num ((x.drop 16).take 8), num ((x.drop 24).take 8), d.take (x.getD 3 0).toNat, (d.drop (x.getD 3 0).toNat).take (num ((x.drop 4).take 2))⟩
/-- is there a block of which these are the lines? -/
def reads (x : List UInt8) : Prop := 64 ≤ x.length ∧ x.length = 64 * span (x.getD 1 0).toNat ∧ (x.getD 3 0).toNat + num ((x.drop 4).take 2) ≤ capN (x.getD 1 0).toNat ∧ may (parse x) = true ∧ lines (parse x) = x
instance (x : List UInt8) : Decidable (reads x) := by unfold reads; infer_instance
def dec (x : List UInt8) : Block := if reads x then parse x else nought
theorem span_pos {c : Int} (h0 : 0 ≤ c) (h3 : c ≤ 3) : 1 ≤ span c ∧ span c ≤ 8 := by have := span_cases c; omega
theorem lines_head (b : Block) (h : 1 ≤ span b.cls) : (lines b).take 32 = head32 b := laid_head (head32_length b) _ _ (by omega)
theorem head_cut (b : Block) : ((head32 b).drop 4).take 2 = lay 2 b.val.length ∧ ((head32 b).drop 8).take 8 = lay 8 b.id ∧ ((head32 b).drop 16).take 8 = lay 8 b.ver ∧ ((head32 b).drop 24).take 8 = lay 8 b.ep := by
  have l2 := lay_length 2 b.val.length
  have li := lay_length 8 b.id
  have lv := lay_length 8 b.ver
  have le := lay_length 8 b.ep
  unfold head32
  generalize lay 2 b.val.length = w at *
  generalize lay 8 b.id = i at *
  generalize lay 8 b.ver = v at *
  generalize lay 8 b.ep = e at *
  generalize u8 b.cls = c1
  generalize u8 b.kind = c2
  generalize u8 b.key.length = c3
  refine ⟨?_, ?_, ?_, ?_⟩
  · have : [1, c1, c2, c3] ++ w ++ [0, 0] ++ i ++ v ++ e = [1, c1, c2, c3] ++ (w ++ ([0, 0] ++ i ++ v ++ e)) := by simp
    rw [this, List.drop_left' (by simp), List.take_left' (by omega)]
  · have : [1, c1, c2, c3] ++ w ++ [0, 0] ++ i ++ v ++ e = ([1, c1, c2, c3] ++ w ++ [0, 0]) ++ (i ++ (v ++ e)) := by simp
    rw [this, List.drop_left' (by simp; omega), List.take_left' (by omega)]
  · have : [1, c1, c2, c3] ++ w ++ [0, 0] ++ i ++ v ++ e = ([1, c1, c2, c3] ++ w ++ [0, 0] ++ i) ++ (v ++ e) := by simp
    rw [this, List.drop_left' (by simp; omega), List.take_left' (by omega)]
  · have : [1, c1, c2, c3] ++ w ++ [0, 0] ++ i ++ v ++ e = ([1, c1, c2, c3] ++ w ++ [0, 0] ++ i ++ v) ++ (e ++ []) := by simp
    rw [this, List.drop_left' (by simp; omega), List.take_left' (by omega)]
theorem take_drop_take {x : List UInt8} {a m n : Nat} (h : a + m ≤ n) : (x.drop a).take m = ((x.take n).drop a).take m := by
  apply List.ext_getElem?
  intro i
  simp only [List.getElem?_take, List.getElem?_drop]
  split
  · rw [if_pos (by omega)]
  · rfl
theorem getD_take {x : List UInt8} {a n : Nat} (h : a < n) : (x.take n).getD a 0 = x.getD a 0 := by
  simp only [List.getD, List.getElem?_take, if_pos h]
theorem parse_lines {b : Block} (h : Fine b) : parse (lines b) = b := by
  have hs := span_pos h.c0 h.c3
  have hh := lines_head b hs.1
  have g : ∀ a, a < 32 → (lines b).getD a 0 = (head32 b).getD a 0 := fun a ha => by rw [← hh, getD_take ha]
  have t : ∀ a m, a + m ≤ 32 → ((lines b).drop a).take m = ((head32 b).drop a).take m := fun a m ha => by rw [take_drop_take ha, hh]
  obtain ⟨t4, t8, t16, t24⟩ := head_cut b
  have g1 : (((lines b).getD 1 0).toNat : Int) = b.cls := by
    rw [g 1 (by omega)]
    show ((u8 b.cls).toNat : Int) = _
    rw [u8_toNat]
    have := h.c0
    have := h.c3
    omega
  have g2 : (((lines b).getD 2 0).toNat : Int) = b.kind := by
    rw [g 2 (by omega)]
    show ((u8 b.kind).toNat : Int) = _
    rw [u8_toNat]
    have := h.k0
    have := h.k3
    omega
  have g3 : ((lines b).getD 3 0).toNat = b.key.length := by
    rw [g 3 (by omega)]
    have := u8_toNat b.key.length
    have := h.key
    show (u8 b.key.length).toNat = _
    omega
  have hc := capN_val b.cls
  have hfit := h.fit
  have hrl : (room b).length = 28 + 63 * (span b.cls - 1) := by rw [room_length hfit]; omega
  have hd : dataOf (span b.cls) (lines b) = room b := laid_data _ _ hs.1 rfl hrl
  unfold parse
  simp only [g1, g2, g3, t 4 2 (by omega), t 8 8 (by omega), t 16 8 (by omega), t 24 8 (by omega), t4, t8, t16, t24, hd]
  rw [num_lay_lt 8 b.id h.id, num_lay_lt 8 b.ver h.ver, num_lay_lt 8 b.ep h.ep, num_lay_lt 2 b.val.length (by have := h.val; omega)]
  have k1 : (room b).take b.key.length = b.key := by
    unfold room pad
    rw [List.append_assoc, List.take_left' rfl]
  have k2 : ((room b).drop b.key.length).take b.val.length = b.val := by
    unfold room pad
    rw [List.append_assoc, List.drop_left' rfl, List.take_left' rfl]
  rw [k1, k2]
theorem reads_lines {b : Block} (h : may b = true) : reads (lines b) := by
  have hf := fine_of h
  have hs := span_pos hf.c0 hf.c3
  have hp := parse_lines hf
  have hl := lines_length b
  have c1 : (parse (lines b)).cls = (((lines b).getD 1 0).toNat : Int) := rfl
  rw [hp] at c1
  have hh := lines_head b hs.1
  have g3 : ((lines b).getD 3 0).toNat = b.key.length := by
    rw [← getD_take (n := 32) (by omega), hh]
    have := u8_toNat b.key.length
    have := hf.key
    show (u8 b.key.length).toNat = _
    omega
  have g4 : num (((lines b).drop 4).take 2) = b.val.length := by
    rw [take_drop_take (n := 32) (by omega), hh, (head_cut b).1, num_lay_lt 2 b.val.length (by have := hf.val; omega)]
  refine ⟨by omega, by rw [← c1]; exact hl, by rw [← c1, g3, g4]; exact hf.fit, by rw [hp]; exact h, by rw [hp]⟩
theorem dec_lines {b : Block} (h : may b = true) : dec (lines b) = b := by
  unfold dec
  rw [if_pos (reads_lines h), parse_lines (fine_of h)]
theorem lines_inj {a b : Block} (ha : may a = true) (hb : may b = true) (h : lines a = lines b) : a = b := by
  rw [← dec_lines ha, h, dec_lines hb]
theorem span_inj {a b : Int} (ha : 0 ≤ a ∧ a ≤ 3) (hb : 0 ≤ b ∧ b ≤ 3) (h : span a = span b) : a = b := by
  have h1 := span_cases a
  have h2 := span_cases b
  omega
/-- one byte is another one -/
theorem reads_turn {b : Block} (h : may b = true) {k : Nat} {v : UInt8} (hk : k < (lines b).length) (hne : v ≠ (lines b).getD k 0) : ¬ reads ((lines b).set k v) := by
  rintro ⟨_, hl, _, hm, he⟩
  have hf := fine_of h
  have hf' := fine_of hm
  generalize hy : parse ((lines b).set k v) = y at *
  rw [List.length_set] at hl
  have hl2 := congrArg List.length he
  rw [lines_length, List.length_set, lines_length] at hl2
  have hc : y.cls = b.cls := span_inj ⟨hf'.c0, hf'.c3⟩ ⟨hf.c0, hf.c3⟩ (by omega)
  have hs := span_pos hf.c0 hf.c3
  have c1 := capN_val b.cls
  have r1 : (room b).length = 28 + 63 * (span b.cls - 1) := by rw [room_length hf.fit]; omega
  have r2 : (room y).length = 28 + 63 * (span b.cls - 1) := by rw [room_length hf'.fit, hc]; omega
  rw [lines_length] at hk
  refine hne (laid_turn (h' := head32 y) (s' := sumOf y) (r' := room y) hs.1 rfl (head32_length b) (head32_length y) r1 r2 rfl rfl hk ?_)
  have : lines y = laid (head32 y) (sumOf y) (room y) (64 * span b.cls) := by rw [lines, linesTo, hc]
  rw [← this, he]
  rfl
/-- .. or there is one byte more, or less -/
theorem reads_len {x : List UInt8} (h : reads x) : x.length % 64 = 0 := by
  obtain ⟨_, h, _⟩ := h
  omega
/-- what looks like a head -/
def isHead (x : List UInt8) : Prop := x.length = 64 ∧ x.getD 0 0 = 1 ∧ (x.getD 1 0).toNat ≤ 3 ∧ (x.getD 2 0).toNat ≤ 3
instance (x : List UInt8) : Decidable (isHead x) := by unfold isHead; infer_instance
theorem reads_head {x : List UInt8} (h : reads x) : isHead (x.take 64) := by
  obtain ⟨h1, _, _, hm, he⟩ := h
  have hf := fine_of hm
  have hs := span_pos hf.c0 hf.c3
  refine ⟨by rw [List.length_take]; omega, ?_, ?_, ?_⟩
  · rw [getD_take (by omega), ← he, ← getD_take (n := 32) (by omega), lines_head _ hs.1]
    rfl
  · rw [getD_take (by omega)]
    have := hf.c3
    have c1 : (parse x).cls = ((x.getD 1 0).toNat : Int) := rfl
    omega
  · rw [getD_take (by omega)]
    have := hf.k3
    have c1 : (parse x).kind = ((x.getD 2 0).toNat : Int) := rfl
    omega
/-- the lines of a block behind its first one -/
theorem line_at {b : Block} {j : Nat} (hj : j < span b.cls) : (((lines b).drop (64 * j)).take 64).length = 64 ∧ (((lines b).drop (64 * j)).take 64).getD 0 0 = (if j = 0 then 1 else 2) := by
  have hl := lines_length b
  refine ⟨by rw [List.length_take, List.length_drop]; omega, ?_⟩
  simp only [List.getD, List.getElem?_take, List.getElem?_drop, if_pos (show 0 < 64 by omega), Nat.add_zero]
  rw [List.getElem?_eq_getElem (by omega)]
  show (lines b)[64 * j] = _
  unfold lines linesTo
  rw [laid_at]
  by_cases e : j = 0
  · subst e
    rfl
  · rw [if_neg e]
    unfold byteAt
    rw [if_neg (by omega), if_neg (by omega), if_neg (by omega), if_pos (by omega)]
theorem first_head {b : Block} (h : may b = true) : isHead ((lines b).take 64) ∧ (((lines b).getD 1 0).toNat : Int) = b.cls ∧ (((lines b).getD 2 0).toNat : Int) = b.kind := by
  have hp := parse_lines (fine_of h)
  refine ⟨reads_head (reads_lines h), ?_, ?_⟩
  · exact congrArg Block.cls hp
  · exact congrArg Block.kind hp
end Go.Proofs.FuBlock
/- Structs that are compared field by field, over any program. -/
namespace Go.Proofs.FuEq
open Go.RowKit
theorem eqFields_cons {P : Program} (d : Nat) (xs ys : Array Value) (f : Field) (fs : List Field) (a b : Value) (r : Bool) (w : World) (hn : f.name ≠ "_") (ha : (part f.type xs f.offset).run P w = .ok a w) (hb : (part f.type ys f.offset).run P w = .ok b w)
    (hr : (Op.equalIn d f.type a b).run P w = .ok r w) (s : Bool) (hs : (Op.eqFields d xs ys fs).run P w = .ok s w) : (Op.eqFields d xs ys (f :: fs)).run P w = .ok (r && s) w := by
  unfold Op.eqFields
  rw [if_pos hn]
  simp only [Sem.run_bind, ha, hb, hr, Result.andThen_ok]
  cases r
  · simp
  · simp [hs]
theorem eqFields_nil {P : Program} (d : Nat) (xs ys : Array Value) (w : World) : (Op.eqFields d xs ys []).run P w = .ok true w := by simp [Op.eqFields]
end Go.Proofs.FuEq
/- The contracts of package block and of its reference, first part: which blocks may be. -/
namespace Go.Proofs.Ytkbgoloedlpflaa
open Go.RowKit Go.Proofs.FuMem Go.Proofs.FuCode Go.Proofs.FuClass Go.Proofs.FuBlock Go.Proofs.FuEq
set_option maxRecDepth 100000
/-- a block as a value -/
abbrev blockV (cls kind : Int) (id ver ep : Nat) (ks vs : ByteArray) : Value := .agg #[.int .i64 cls, .int .i64 kind, .int .u64 id, .int .u64 ver, .int .u64 ep, .string ks, .string vs]
def mkB (cls kind : Int) (id ver ep : Nat) (ks vs : ByteArray) : Block := ⟨cls, kind, id, ver, ep, ks.data.toList, vs.data.toList⟩
theorem toList_beq (a b : ByteArray) : (a.toList == b.toList) = (a.data.toList == b.data.toList) := by rw [ByteArray.toList_eq, ByteArray.toList_eq]
/-- are two blocks one? -/
def same (a b : Block) : Bool := a.cls == b.cls && (a.kind == b.kind && (a.id == b.id && (a.ver == b.ver && (a.ep == b.ep && (a.key == b.key && a.val == b.val)))))
theorem same_iff (a b : Block) : same a b = true ↔ a = b := by
  obtain ⟨a1, a2, a3, a4, a5, a6, a7⟩ := a
  obtain ⟨b1, b2, b3, b4, b5, b6, b7⟩ := b
  simp [same]
theorem nat_beq (a b : Nat) : (((a : Int)) == ((b : Int))) = (a == b) := by
  rw [Bool.eq_iff_iff, beq_iff_eq, beq_iff_eq]
  omega
end Go.Proofs.Ytkbgoloedlpflaa
/- image.Load, first part: bytes that are refused ahead of the loop. -/
namespace Go.Proofs.Ytkbgoloedlpflaa
open Go.RowKit Go.Proofs.FuMem Go.Proofs.FuNvm Go.Proofs.FuCode Go.Proofs.FuCrc Go.Proofs.FuImg
set_option maxRecDepth 100000
theorem cget_ok (l : List UInt8) (a k : Nat) (h1 : 1 ≤ k) (h8 : k ≤ 8) (h : a + k ≤ l.length) : cget l (a : Int) (k : Int) = (num ((l.drop a).take k), 0) := by
  have hw : wrong l.length (a : Int) (k : Int) = 0 := by
    unfold wrong
    rw [if_neg (by omega), if_neg (by omega)]
  unfold cget
  rw [hw, if_neg (by omega)]
  simp
/-- the first test -/
def formB (l : List UInt8) : Bool := decide (10 ≤ l.length) && (decide (l.take 4 = [70, 83, 73, 49]) && decide ((l.length - 10) % 66 = 0))
abbrev refusedV : Ending := .returned (.tuple #[.pointer none, .int .i64 3])
theorem img_Load_form (A : Option Addr) (n c : Nat) (l : List UInt8) (w : World) (h : Bs w A n l) (hc : n ≤ c) (hn : n ≤ 1000000) (hf : formB l = false) :
    Calls Try.prog 10 #[.slice A n c] w fun e w' => e = refusedV ∧ Only [] w w' := by
  have hl := h.len
  by_cases h10 : n < 10
  · have q1 : decide ((n : Int) < 10) = true := by go_num
    clear h hf hl
    go_enter Try.func10, Try.ntmps10
    go_wp2
    go_ret2
    exact ⟨rfl, Only.refl _ _⟩
  · have q1 : decide ((n : Int) < 10) = false := by go_num
    obtain ⟨b, off, rfl, _⟩ := h.at_ (by omega)
    have h4 := h.cut (a := 0) (m := 4) (by omega)
    rw [List.drop_zero, Nat.add_zero] at h4
    have hst := run_str (P := Try.prog) Try.underlying22 Try.underlying5 Try.underlying9 h4 c
    have hc4 : 4 ≤ c := by omega
    by_cases hm : l.take 4 = [70, 83, 73, 49]
    · have q3 : (((n : Int) - 6 - 4) % 66 != 0) = true := by
        unfold formB at hf
        rw [hl] at hf
        have : ¬ ((n - 10) % 66 = 0) := by
          intro hh
          rw [decide_eq_true hm, decide_eq_true hh, decide_eq_true (show 10 ≤ n by omega)] at hf
          cases hf
        rw [bne_iff_ne]
        omega
      rw [hm] at hst
      clear h h4 hf hl hm
      go_enter Try.func10, Try.ntmps10
      go_wp2
      go_ret2
      exact ⟨rfl, Only.refl _ _⟩
    · have e1 : ((⟨(l.take 4).toArray⟩ : ByteArray).toList == [70, 83, 73, 49]) = false := by rw [ByteArray.toList_eq]; simpa using hm
      generalize (⟨(l.take 4).toArray⟩ : ByteArray) = X at hst e1
      have e2 : ¬ (X.toList = [70, 83, 73, 49]) := by simpa using e1
      clear h h4 hf hl hm
      go_enter Try.func10, Try.ntmps10
      go_wp2
      go_ret2
      exact ⟨rfl, Only.refl _ _⟩
set_option maxHeartbeats 1000000 in
theorem img_Load_head (A : Option Addr) (n c : Nat) (l : List UInt8) (w : World) (h : Bs w A n l) (hc : n ≤ c) (hn : n ≤ 1000000) (hf : formB l = true) (ho : ¬ okB l) :
    Calls Try.prog 10 #[.slice A n c] w fun e w' => e = refusedV ∧ Only [] w w' := by
  have hl := h.len
  have hf' := hf
  unfold formB at hf'
  rw [Bool.and_eq_true, Bool.and_eq_true, decide_eq_true_eq, decide_eq_true_eq, decide_eq_true_eq, hl] at hf'
  obtain ⟨h10, hm, h66⟩ := hf'
  have q1 : decide ((n : Int) < 10) = false := by go_num
  obtain ⟨b, off, rfl, _⟩ := h.at_ (by omega)
  have h4 := h.cut (a := 0) (m := 4) (by omega)
  rw [List.drop_zero, Nat.add_zero] at h4
  have hst := run_str (P := Try.prog) Try.underlying22 Try.underlying5 Try.underlying9 h4 c
  have hc4 : 4 ≤ c := by omega
  rw [hm] at hst
  have q3 : (((n : Int) - 6 - 4) % 66 != 0) = false := by rw [bne_eq_false_iff_eq]; omega
  have g1 := code_Get (some ⟨b, off, none⟩) n c l 4 2 w h hn (by omega) (by omega)
  have g2 := code_Get (some ⟨b, off, none⟩) n c l ((n : Int) - 4) 4 w h hn (by omega) (by omega)
  rw [show (4 : Int) = ((4 : Nat) : Int) from rfl, show (2 : Int) = ((2 : Nat) : Int) from rfl, cget_ok l 4 2 (by omega) (by omega) (by omega)] at g1
  rw [show (n : Int) - 4 = ((n - 4 : Nat) : Int) by omega, show (4 : Int) = ((4 : Nat) : Int) from rfl, cget_ok l (n - 4) 4 (by omega) (by omega) (by omega)] at g2
  have hlt1 := num_lt ((l.drop 4).take 2)
  have hlt2 := num_lt ((l.drop (n - 4)).take 4)
  have hlen1 : ((l.drop 4).take 2).length = 2 := by rw [List.length_take, List.length_drop]; omega
  have hlen2 : ((l.drop (n - 4)).take 4).length = 4 := by rw [List.length_take, List.length_drop]; omega
  have hall : (l.drop (n - 4)).take 4 = l.drop (n - 4) := List.take_of_length_le (by rw [List.length_drop]; omega)
  rw [hlen1] at hlt1
  rw [hlen2] at hlt2
  rw [hall] at g2 hlt2
  have hbad : ¬ (1 ≤ nOf l ∧ nOf l ≤ 258 ∧ crc (l.take (n - 4)) = num (l.drop (n - 4))) := by
    intro hh
    refine ho ⟨by omega, hm, by rw [hl]; exact h66, hh.1, hh.2.1, by rw [hl]; exact hh.2.2⟩
  have hsub := h.cut (a := 0) (m := n - 4) (by omega)
  rw [List.drop_zero, Nat.add_zero] at hsub
  have hcl := crc_lt (l.take (n - 4))
  unfold nOf at hbad
  generalize num ((l.drop 4).take 2) = N at *
  generalize num (l.drop (n - 4)) = M at *
  have G1 := Lib.hid g1
  have G2 := Lib.hid g2
  have e4 : ((n - 4 : Nat) : Int) = (n : Int) - 4 := by omega
  have E4 := Lib.hid e4
  by_cases hN : N < 1 ∨ 258 < N
  · have S1 := Lib.hid (nvm_New_no (N : Int) w (by omega))
    have q5 : (N : Int) ≤ 65535 := by omega
    clear h h4 hf hl hm g1 g2 hbad hsub hlt1 hlt2 hall hlen1 hlen2 hN ho e4
    go_enter Try.func10, Try.ntmps10
    go_wp2_with fail
    refine (G1.out).mono ?_
    rintro e w' ⟨rfl, rfl⟩
    go_wp2_with fail
    rw [← E4.out]
    go_wp2_with fail
    refine (G2.out).mono ?_
    rintro e w' ⟨rfl, rfl⟩
    go_wp2_with fail
    refine S1.out.mono ?_
    rintro e w' ⟨rfl, rfl⟩
    go_wp2
    go_ret2
    exact ⟨rfl, Only.refl _ _⟩
  · have S2 := Lib.hid (nvm_New N w (by omega) (by omega))
    have q5 : (N : Int) ≤ 65535 := by omega
    have hne : ((crc (l.take (n - 4)) : Nat) : Int) ≠ (M : Int) := fun hh => hbad ⟨by omega, by omega, by omega⟩
    have S4 := Lib.hid (fun w1 (o1 : Only [] w w1) => sum_Sum (some ⟨b, off, none⟩) (n - 4) c (l.take (n - 4)) w1 (hsub.only0 o1) (by unfold maxLen; omega))
    generalize crc (l.take (n - 4)) = K at *
    have q6 : ((K : Int) != (M : Int)) = true := by rw [bne_iff_ne]; exact hne
    clear h h4 hf hl hm g1 g2 hbad hsub hlt1 hall hlen1 hlen2 hN ho e4 hne
    go_enter Try.func10, Try.ntmps10
    go_wp2_with fail
    refine (G1.out).mono ?_
    rintro e w' ⟨rfl, rfl⟩
    go_wp2_with fail
    rw [← E4.out]
    go_wp2_with fail
    refine (G2.out).mono ?_
    rintro e w' ⟨rfl, rfl⟩
    go_wp2_with fail
    refine S2.out.mono ?_
    rintro e w1 ⟨g, cb, rfl, d1, o1, f1, f2⟩
    have O1 := Lib.hid o1
    clear d1 o1
    go_wp2_with fail
    refine (S4.out w1 O1.out).mono ?_
    rintro e w' ⟨rfl, rfl⟩
    go_wp2
    go_ret2
    exact ⟨rfl, O1.out⟩
end Go.Proofs.Ytkbgoloedlpflaa
/- image.Load, second part: the loop. -/
namespace Go.Proofs.Ytkbgoloedlpflaa
open Go.RowKit Go.Proofs.FuMem Go.Proofs.FuNvm Go.Proofs.FuCode Go.Proofs.FuCrc Go.Proofs.FuImg
set_option maxRecDepth 100000
theorem img_eql (l k : List UInt8) (hl : l.length = 64) (hk : k.length = 64) (w : World) : (binOp .eql 70 (arrV l) (arrV k)).run Try.prog w = .ok (.bool (l == k)) w := by
  obtain ⟨i0, hi, hz0, hz1, hz2⟩ := info_parts Try.byteInfo
  unfold arrV
  rw [run_eql_struct]
  have := run_equalIn_arr (P := Try.prog) 9998 Try.underlying70 Try.underlying5 i0 hi hz1 l k hl hk w
  unfold arrV at this
  rw [this]
  rfl
/-- a guarded operation that is wanted goes as one that is not guarded -/
theorem wpList_unguard {P : Program} {ops : Array Oper} {Q : Exit → Act → World → Prop} {a : Act} {w : World} {rest : List Oper} {o : Oper} (hw : Region.wanted o (yielded ops a.tmps) = true)
    (h : wpList P ops Q ({ o with guard := none } :: rest) a w) : wpList P ops Q (o :: rest) a w := by
  unfold wpList at h ⊢
  rw [if_pos (by simp [Region.wanted])] at h
  rw [if_pos hw]
  exact h
/-- what Load answers of bytes whose head and sum are right -/
def LoadsOk (w : World) (l : List UInt8) (e : Ending) (w' : World) : Prop :=
  (Good (nOf l) (itemsTo l (kOf l)) ∧ ∃ g cb, e = .returned (.tuple #[.pointer (some ⟨g, 0, none⟩), .int .i64 0]) ∧ DevAt w' g cb (nOf l) (foldB l) ∧ w.heap.size ≤ g ∧ w.heap.size ≤ cb ∧ Only [] w w') ∨
  (¬ Good (nOf l) (itemsTo l (kOf l)) ∧ e = refusedV ∧ Only [] w w')
theorem bad_full {l : List UInt8} {n j k : Nat} (hj : j < k) (hg : Good n (itemsTo l j)) (hb : ¬ (lastI (itemsTo l j) < ((itemAt l j).1 : Int) ∧ (itemAt l j).1 < n ∧ (itemAt l j).2 ≠ zrow)) : ¬ Good n (itemsTo l k) := by
  intro h
  obtain ⟨d, rfl⟩ : ∃ d, k = j + 1 + d := ⟨k - (j + 1), by omega⟩
  have e : itemsTo l (j + 1 + d) = itemsTo l (j + 1) ++ (List.range d).map (fun x => itemAt l (j + 1 + x)) := by
    unfold itemsTo
    rw [List.range_add, List.map_append, List.map_map]
    rfl
  rw [e] at h
  have h1 := good_take h
  rw [itemsTo_succ] at h1
  exact hb ((good_snoc hg).1 h1)
set_option maxHeartbeats 2000000 in
theorem img_Load_loop (A : Option Addr) (n c : Nat) (l : List UInt8) (w : World) (h : Bs w A n l) (hc : n ≤ c) (hn : n ≤ 1000000) (ho : okB l) :
    Calls Try.prog 10 #[.slice A n c] w fun e w' => LoadsOk w l e w' := by
  have hl := h.len
  obtain ⟨h10, hm, h66, hN1, hN2, hcrc⟩ := ho
  rw [hl] at h10 h66 hcrc
  have q1 : decide ((n : Int) < 10) = false := by go_num
  obtain ⟨b, off, rfl, _⟩ := h.at_ (by omega)
  have h4 := h.cut (a := 0) (m := 4) (by omega)
  rw [List.drop_zero, Nat.add_zero] at h4
  have hst := run_str (P := Try.prog) Try.underlying22 Try.underlying5 Try.underlying9 h4 c
  have hc4 : 4 ≤ c := by omega
  rw [hm] at hst
  have q3 : (((n : Int) - 6 - 4) % 66 != 0) = false := by rw [bne_eq_false_iff_eq]; omega
  have g1 := code_Get (some ⟨b, off, none⟩) n c l 4 2 w h hn (by omega) (by omega)
  have g2 := code_Get (some ⟨b, off, none⟩) n c l ((n : Int) - 4) 4 w h hn (by omega) (by omega)
  rw [show (4 : Int) = ((4 : Nat) : Int) from rfl, show (2 : Int) = ((2 : Nat) : Int) from rfl, cget_ok l 4 2 (by omega) (by omega) (by omega)] at g1
  rw [show (n : Int) - 4 = ((n - 4 : Nat) : Int) by omega, show (4 : Int) = ((4 : Nat) : Int) from rfl, cget_ok l (n - 4) 4 (by omega) (by omega) (by omega)] at g2
  rw [show num ((l.drop 4).take 2) = nOf l from rfl] at g1
  have hlt2 := num_lt ((l.drop (n - 4)).take 4)
  have hlen2 : ((l.drop (n - 4)).take 4).length = 4 := by rw [List.length_take, List.length_drop]; omega
  have hall : (l.drop (n - 4)).take 4 = l.drop (n - 4) := List.take_of_length_le (by rw [List.length_drop]; omega)
  rw [hlen2] at hlt2
  rw [hall] at g2 hlt2
  have hsub := h.cut (a := 0) (m := n - 4) (by omega)
  rw [List.drop_zero, Nat.add_zero] at hsub
  have hfin : n = 10 + 66 * kOf l := by unfold kOf; rw [hl]; omega
  have G3 := Lib.hid (fun (w1 : World) (o1 : Only [] w w1) (j : Nat) (hj : j < kOf l) => by
    have := code_Get (some ⟨b, off, none⟩) n c l ((6 + 66 * j : Nat) : Int) ((2 : Nat) : Int) w1 (h.only0 o1) hn (by omega) (by omega)
    rw [cget_ok l (6 + 66 * j) 2 (by omega) (by omega) (by omega)] at this
    exact this)
  have C3 := Lib.hid (fun (w1 : World) (o1 : Only [] w w1) (j : Nat) (hj : j < kOf l) => by
    have := (h.only0 o1).cut (a := 8 + 66 * j) (m := 64) (by omega)
    exact (show Bs w1 (some ⟨b, off + (8 + 66 * j), none⟩) 64 (itemAt l j).2 from this))
  have L3 := Lib.hid (fun (j : Nat) (hj : j < kOf l) => show (itemAt l j).2.length = 64 by unfold itemAt; simp only; rw [List.length_take, List.length_drop]; omega)
  have M3 := Lib.hid (fun (j : Nat) => show (itemAt l j).1 < 65536 by
    have h1 := num_lt ((l.drop (6 + 66 * j)).take 2)
    have h2 : ((l.drop (6 + 66 * j)).take 2).length ≤ 2 := List.length_take_le _ _
    have h3 : 256 ^ ((l.drop (6 + 66 * j)).take 2).length ≤ 256 ^ 2 := Nat.pow_le_pow_right (by omega) h2
    show num _ < 65536
    omega)
  have GJ := Lib.hid (fun (n j : Nat) (hj : j < kOf l) => bad_full (l := l) (n := n) hj)
  unfold LoadsOk
  have S2 := Lib.hid (nvm_New (nOf l) w (by omega) (by omega))
  have q5 : (nOf l : Int) ≤ 65535 := by omega
  have S4 := Lib.hid (fun w1 (o1 : Only [] w w1) => sum_Sum (some ⟨b, off, none⟩) (n - 4) c (l.take (n - 4)) w1 (hsub.only0 o1) (by unfold maxLen; omega))
  rw [hcrc] at S4
  have e4 : ((n - 4 : Nat) : Int) = (n : Int) - 4 := by omega
  have E4 := Lib.hid e4
  have FB := Lib.hid (show foldB l = foldD (nOf l) (itemsTo l (kOf l)) from rfl)
  have FIN := Lib.hid hfin
  have hkk : kOf l ≤ 20000 := by omega
  have G1 := Lib.hid g1
  have G2 := Lib.hid g2
  generalize nOf l = N at *
  generalize kOf l = k at *
  generalize foldB l = F at *
  generalize num (l.drop (n - 4)) = M at *
  have hcn := hc
  obtain ⟨i0, hi0, hz0, hz1, hz2⟩ := info_parts Try.byteInfo
  have HI0 := Lib.hid hi0
  clear h h4 hl hm g1 g2 hsub hall hlen2 e4 hcrc h66 hfin hi0 hz0 hz1 hz2
  go_enter Try.func10, Try.ntmps10
  go_wp2_with fail
  refine (G1.out).mono ?_
  rintro e w' ⟨rfl, rfl⟩
  go_wp2_with fail
  rw [← E4.out]
  go_wp2_with fail
  refine (G2.out).mono ?_
  rintro e w' ⟨rfl, rfl⟩
  go_wp2_with fail
  refine S2.out.mono ?_
  rintro e w1 ⟨g, cb, rfl, d1, o1, f1, f2⟩
  have O1 := Lib.hid o1
  have D1 := Lib.hid d1
  clear d1 o1
  go_wp2_with fail
  refine (S4.out w1 O1.out).mono ?_
  rintro e w' ⟨rfl, rfl⟩
  go_wp2
  go_loopw [10, 11] (fun la at_ wr => ∃ (j a : Nat), j ≤ k ∧ a = 6 + 66 * j ∧ la = .int .i64 (lastI (itemsTo l j)) ∧ at_ = .int .i64 a ∧ Good N (itemsTo l j) ∧ DevAt wr g cb N (foldD N (itemsTo l j)) ∧ Only [] w wr) (fun _ at_ _ => n - (intOf at_).toNat)
  case atStart => exact ⟨0, 6, Nat.zero_le _, rfl, rfl, rfl, ⟨List.Pairwise.nil, fun p hp => by cases hp⟩, D1.out, O1.out⟩
  case round =>
    obtain ⟨j, a, hj, ha, rfl, rfl, hg, hd, on⟩ := hrel
    by_cases hlt : j < k
    · have hcmp : decide ((a : Int) < (n : Int) - 4) = true := by have := FIN.out; go_num
      have gg := G3.out wr on j hlt
      rw [show num ((l.drop (6 + 66 * j)).take 2) = (itemAt l j).1 from rfl, ← ha] at gg
      have cc := C3.out wr on j hlt
      rw [show 8 + 66 * j = a + 2 by omega] at cc
      have hr := L3.out j hlt
      have hi := M3.out j
      have gj := GJ.out N j hlt hg
      have hgs := good_snoc (p := itemAt l j) hg
      have hls := lastI_snoc (itemsTo l j) (itemAt l j)
      have hft := foldD_snoc N (itemsTo l j) (itemAt l j)
      rw [← itemsTo_succ] at hgs hls hft
      have hdl := foldD_len N (itemsTo l j)
      have ha2 : a + 66 ≤ 1000000 := by have := FIN.out; omega
      have ha1 : a + 66 ≤ c := by have := FIN.out; omega
      have hla : -1 ≤ lastI (itemsTo l j) ∧ lastI (itemsTo l j) < N := by
        rcases lastI_in (itemsTo l j) with e | ⟨q, hq, e⟩
        · omega
        · have := (hg.2 q hq).1
          omega
      have hla1 := hla.1
      have hla2 := hla.2
      clear hla
      generalize itemAt l j = p at *
      obtain ⟨i, r⟩ := p
      simp only at gg cc hr hi gj hgs hls hft
      generalize lastI (itemsTo l j) = la at *
      generalize foldD N (itemsTo l j) = D at *
      have harr : ∀ w, (Instr.arrayAt 70 (.slice (some ⟨b, off + (a + 2), none⟩) 64 (c - (a + 2)))).run Try.prog w = .ok (.pointer (some ⟨b, off + (a + 2), none⟩)) w := fun w => by
        simp [Instr.arrayAt, run_underlying Try.underlying70]
      have hx : Bs wr (some ⟨b, off + (a + 2), none⟩) r.length r := by rw [hr]; exact cc
      have GG := Lib.hid gg
      have HX := Lib.hid hx
      have HR := Lib.hid hr
      have HL := Lib.hid (show (Try.prog.info? 70).map (·.size) = some r.length by rw [hr]; exact imgSize)
      have HZ := Lib.hid (show (List.replicate 64 (0 : UInt8)).length = r.length by rw [hr]; exact List.length_replicate)
      have GJ1 := Lib.hid gj
      have HGS := Lib.hid hgs
      have HLS := Lib.hid hls
      have HFT := Lib.hid hft
      have HD := Lib.hid hd
      have ON := Lib.hid on
      have HDL := Lib.hid hdl
      have HJ := Lib.hid ha
      have HG := Lib.hid hg
      clear gg cc hr gj hgs hls hft hd on hx hdl ha hg
      by_cases b1 : (i : Int) ≤ la
      · have q7 : decide ((i : Int) ≤ la) = true := by simpa using b1
        go_wp2_with fail
        refine (GG.out).mono ?_
        rintro e w' ⟨rfl, rfl⟩
        go_wp2_with (first
          | ((with_reducible show wpList _ _ _ (Oper.mk (some 87) _ _ _ _ _ :: _) _ _); refine wpList_load_arr rfl 70 (.tmp 86) rfl b (off + (a + 2)) rfl r HX.out 64 5 Try.underlying70 HL.out ?_)
          | ((with_reducible show wpList _ _ _ (Oper.mk (some 15) _ _ _ _ _ :: _) _ _); refine wpList_alloc_arr rfl 70 rfl _ imgZero ?_; intro w2 hb2 ho2 hs2)
          | ((with_reducible show wpList _ _ _ (Oper.mk none _ _ _ _ _ :: _) _ _); refine wpList_store_arr rfl 70 (.tmp 15) (.tmp 87) rfl wr.heap.size r rfl rfl _ _ hb2 HZ.out HL.out ?_; intro w3 hb3 ho3 hs3))
        have O3 := Lib.hid (show Only [] w w3 from (ON.out.trans0 ho2).trans ho3 (by intro b hb; rw [List.mem_singleton] at hb; subst hb; exact .inr ON.out.size))
        have D3 := Lib.hid ((HD.out.only0 ho2).only ho3 (by simpa using Nat.ne_of_lt HD.out.lt1) (by simpa using Nat.ne_of_lt HD.out.lt2))
        have H3 := Lib.hid (Arr.bs hb3)
        clear hb2 ho2 hb3 ho3
        go_ret2
        exact .inr ⟨GJ1.out (fun x => by omega), rfl, O3.out⟩
      · have q7 : decide ((i : Int) ≤ la) = false := by simpa using b1
        by_cases b2 : N ≤ i
        · have q8 : decide ((N : Int) ≤ (i : Int)) = true := by go_num
          go_wp2_with fail
          refine (GG.out).mono ?_
          rintro e w' ⟨rfl, rfl⟩
          go_wp2_with (first
            | ((with_reducible show wpList _ _ _ (Oper.mk (some 87) _ _ _ _ _ :: _) _ _); refine wpList_load_arr rfl 70 (.tmp 86) rfl b (off + (a + 2)) rfl r HX.out 64 5 Try.underlying70 HL.out ?_)
            | ((with_reducible show wpList _ _ _ (Oper.mk (some 15) _ _ _ _ _ :: _) _ _); refine wpList_alloc_arr rfl 70 rfl _ imgZero ?_; intro w2 hb2 ho2 hs2)
            | ((with_reducible show wpList _ _ _ (Oper.mk none _ _ _ _ _ :: _) _ _); refine wpList_store_arr rfl 70 (.tmp 15) (.tmp 87) rfl wr.heap.size r rfl rfl _ _ hb2 HZ.out HL.out ?_; intro w3 hb3 ho3 hs3))
          have O3 := Lib.hid (show Only [] w w3 from (ON.out.trans0 ho2).trans ho3 (by intro b hb; rw [List.mem_singleton] at hb; subst hb; exact .inr ON.out.size))
          have D3 := Lib.hid ((HD.out.only0 ho2).only ho3 (by simpa using Nat.ne_of_lt HD.out.lt1) (by simpa using Nat.ne_of_lt HD.out.lt2))
          have H3 := Lib.hid (Arr.bs hb3)
          clear hb2 ho2 hb3 ho3
          refine (nvm_Lines g cb N D w3 D3.out).mono ?_
          rintro e w' ⟨rfl, rfl⟩
          rw [HDL.out]
          go_wp2
          go_ret2
          exact .inr ⟨GJ1.out (fun x => by omega), rfl, O3.out⟩
        · have q8 : decide ((N : Int) ≤ (i : Int)) = false := by go_num
          have b2' : i < N := by omega
          have b1' : la < (i : Int) := by omega
          by_cases b3 : r = zrow
          · have qe : ∀ w, (binOp .eql 70 (arrV r) (arrV zrow)).run Try.prog w = .ok (.bool true) w := fun w => by
              rw [img_eql r zrow HR.out zrow_length w, b3, beq_self_eq_true]
            have hgd := fun (a b : Operand) (w : World) => eqGuard_arr (P := Try.prog) imgGuard .eql a b r zrow w
            have B3 := Lib.hid b3
            clear b3
            go_wp2_with fail
            refine (GG.out).mono ?_
            rintro e w' ⟨rfl, rfl⟩
            go_wp2_with (first
              | ((with_reducible show wpList _ _ _ (Oper.mk (some 87) _ _ _ _ _ :: _) _ _); refine wpList_load_arr rfl 70 (.tmp 86) rfl b (off + (a + 2)) rfl r HX.out 64 5 Try.underlying70 HL.out ?_)
              | ((with_reducible show wpList _ _ _ (Oper.mk (some 15) _ _ _ _ _ :: _) _ _); refine wpList_alloc_arr rfl 70 rfl _ imgZero ?_; intro w2 hb2 ho2 hs2)
              | ((with_reducible show wpList _ _ _ (Oper.mk none _ _ _ _ _ :: _) _ _); refine wpList_store_arr rfl 70 (.tmp 15) (.tmp 87) rfl wr.heap.size r rfl rfl _ _ hb2 HZ.out HL.out ?_; intro w3 hb3 ho3 hs3))
            have O3 := Lib.hid (show Only [] w w3 from (ON.out.trans0 ho2).trans ho3 (by intro b hb; rw [List.mem_singleton] at hb; subst hb; exact .inr ON.out.size))
            have D3 := Lib.hid ((HD.out.only0 ho2).only ho3 (by simpa using Nat.ne_of_lt HD.out.lt1) (by simpa using Nat.ne_of_lt HD.out.lt2))
            have H3 := Lib.hid (Arr.bs hb3)
            clear hb2 ho2 hb3 ho3
            refine (nvm_Lines g cb N D w3 D3.out).mono ?_
            rintro e w' ⟨rfl, rfl⟩
            rw [HDL.out]
            go_wp2_with (first
              | ((with_reducible show wpList _ _ _ (Oper.mk (some 98) _ _ _ _ _ :: _) _ _); refine wpList_unguard (by rfl) ?_; refine wpList_load_arr rfl 70 (.tmp 15) rfl wr.heap.size 0 rfl r H3.out 64 5 Try.underlying70 HL.out ?_)
              | ((with_reducible show wpList _ _ _ (Oper.mk (some 99) _ _ _ _ _ :: _) _ _); refine wpList_unguard (by rfl) ?_; refine wpList_build_zero rfl 70 rfl zrow imgZero 64 5 Try.underlying70 i0 HI0.out ?_))
            go_ret2
            exact .inr ⟨GJ1.out (fun x => x.2.2 B3.out), rfl, O3.out⟩
          · have qe : ∀ w, (binOp .eql 70 (arrV r) (arrV zrow)).run Try.prog w = .ok (.bool false) w := fun w => by
              rw [img_eql r zrow HR.out zrow_length w, beq_eq_false_iff_ne.2 b3]
            have hgd := fun (a b : Operand) (w : World) => eqGuard_arr (P := Try.prog) imgGuard .eql a b r zrow w
            have B3 := Lib.hid b3
            clear b3
            go_wp2_with fail
            refine (GG.out).mono ?_
            rintro e w' ⟨rfl, rfl⟩
            go_wp2_with (first
              | ((with_reducible show wpList _ _ _ (Oper.mk (some 87) _ _ _ _ _ :: _) _ _); refine wpList_load_arr rfl 70 (.tmp 86) rfl b (off + (a + 2)) rfl r HX.out 64 5 Try.underlying70 HL.out ?_)
              | ((with_reducible show wpList _ _ _ (Oper.mk (some 15) _ _ _ _ _ :: _) _ _); refine wpList_alloc_arr rfl 70 rfl _ imgZero ?_; intro w2 hb2 ho2 hs2)
              | ((with_reducible show wpList _ _ _ (Oper.mk none _ _ _ _ _ :: _) _ _); refine wpList_store_arr rfl 70 (.tmp 15) (.tmp 87) rfl wr.heap.size r rfl rfl _ _ hb2 HZ.out HL.out ?_; intro w3 hb3 ho3 hs3))
            have O3 := Lib.hid (show Only [] w w3 from (ON.out.trans0 ho2).trans ho3 (by intro b hb; rw [List.mem_singleton] at hb; subst hb; exact .inr ON.out.size))
            have D3 := Lib.hid ((HD.out.only0 ho2).only ho3 (by simpa using Nat.ne_of_lt HD.out.lt1) (by simpa using Nat.ne_of_lt HD.out.lt2))
            have H3 := Lib.hid (Arr.bs hb3)
            clear hb2 ho2 hb3 ho3
            refine (nvm_Lines g cb N D w3 D3.out).mono ?_
            rintro e w' ⟨rfl, rfl⟩
            rw [HDL.out]
            go_wp2_with (first
              | ((with_reducible show wpList _ _ _ (Oper.mk (some 98) _ _ _ _ _ :: _) _ _); refine wpList_unguard (by rfl) ?_; refine wpList_load_arr rfl 70 (.tmp 15) rfl wr.heap.size 0 rfl r H3.out 64 5 Try.underlying70 HL.out ?_)
              | ((with_reducible show wpList _ _ _ (Oper.mk (some 99) _ _ _ _ _ :: _) _ _); refine wpList_unguard (by rfl) ?_; refine wpList_build_zero rfl 70 rfl zrow imgZero 64 5 Try.underlying70 i0 HI0.out ?_))
            have B4 := H3.out
            rw [HR.out] at B4
            refine (nvm_Store_any g cb N D i 0 (some ⟨wr.heap.size, 0, none⟩) 64 64 r w3 D3.out B4 (by unfold maxLen; omega)).mono ?_
            rintro e w4 ⟨rfl, d4, o4⟩
            have D4 := Lib.hid d4
            have O4 := Lib.hid (O3.out.trans o4 (by intro b hb; simp at hb; rcases hb with rfl | rfl <;> omega))
            clear d4 o4 B4
            go_wp2_with fail
            refine (nvm_Back_any g cb N _ i w4 D4.out).mono ?_
            rintro e w5 ⟨rfl, d5, o5⟩
            have D5 := Lib.hid d5
            have O5 := Lib.hid (O4.out.trans o5 (by intro b hb; simp at hb; rcases hb with rfl | rfl <;> omega))
            clear d5 o5
            go_wp2
            go_roundw
            case rel =>
              exact ⟨j + 1, a + 66, by omega, by have := HJ.out; omega, by rw [HLS.out], by go_num, HGS.out.2 ⟨b1', b2', B3.out⟩, by rw [HFT.out]; exact D5.out, O5.out⟩
            case measure => simp [intOf]; have := FIN.out; have := HJ.out; omega
    · obtain rfl : j = k := by omega
      have hcmp : decide ((a : Int) < (n : Int) - 4) = false := by have := FIN.out; go_num
      have HG := Lib.hid hg
      have HD := Lib.hid hd
      have ON := Lib.hid on
      clear hg hd on ha
      go_wp2
      go_ret2
      exact .inl ⟨HG.out, g, cb, rfl, by rw [FB.out]; exact HD.out, f1, f2, ON.out⟩
end Go.Proofs.Ytkbgoloedlpflaa
/- image.Load: the contract. -/
namespace Go.Proofs.Ytkbgoloedlpflaa
open Go.RowKit Go.Proofs.FuMem Go.Proofs.FuNvm Go.Proofs.FuCode Go.Proofs.FuCrc Go.Proofs.FuImg
set_option maxRecDepth 100000
/-- what Load answers -/
def LoadAns (w : World) (o : Option Dev) (e : Ending) (w' : World) : Prop :=
  Only [] w w' ∧ ((o = none ∧ e = refusedV) ∨ ∃ D g cb, o = some D ∧ e = .returned (.tuple #[.pointer (some ⟨g, 0, none⟩), .int .i64 0]) ∧ DevAt w' g cb D.lines.length D ∧ w.heap.size ≤ g ∧ w.heap.size ≤ cb)
theorem loadP_no {l : List UInt8} (h : ¬ (okB l ∧ Good (nOf l) (itemsTo l (kOf l)))) : loadP l = none := if_neg h
theorem loadP_yes {l : List UInt8} (h : okB l ∧ Good (nOf l) (itemsTo l (kOf l))) : loadP l = some (foldB l) := if_pos h
theorem img_Load (A : Option Addr) (n c : Nat) (l : List UInt8) (w : World) (h : Bs w A n l) (hc : n ≤ c) (hn : n ≤ 1000000) :
    Calls Try.prog 10 #[.slice A n c] w fun e w' => LoadAns w (loadP l) e w' := by
  by_cases ho : okB l
  · refine (img_Load_loop A n c l w h hc hn ho).mono ?_
    rintro e w' (⟨hg, g, cb, rfl, hd, f1, f2, o⟩ | ⟨hg, rfl, o⟩)
    · refine ⟨o, .inr ⟨_, g, cb, loadP_yes ⟨ho, hg⟩, rfl, ?_, f1, f2⟩⟩
      rw [show (foldB l).lines.length = nOf l from foldD_len _ _]
      exact hd
    · exact ⟨o, .inl ⟨loadP_no fun x => hg x.2, rfl⟩⟩
  · have hno := loadP_no (l := l) fun x => ho x.1
    by_cases hf : formB l = true
    · refine (img_Load_head A n c l w h hc hn hf ho).mono ?_
      rintro e w' ⟨rfl, o⟩
      exact ⟨o, .inl ⟨hno, rfl⟩⟩
    · refine (img_Load_form A n c l w h hc hn (by simpa using hf)).mono ?_
      rintro e w' ⟨rfl, o⟩
      exact ⟨o, .inl ⟨hno, rfl⟩⟩
end Go.Proofs.Ytkbgoloedlpflaa
/- Package image: the iterator over the lines that are not empty (lines$1), inside the wide fence. -/
namespace Go.Proofs.Ytkbgoloedlpflaa
open Go.RowKit Go.Shelf Go.Proofs.FuMem Go.Proofs.FuNvm Go.Proofs.FuCode Go.Proofs.FuFence Go.Proofs.FuImg
set_option maxRecDepth 100000
attribute [local go_sem] Oper.semAt_some
def encRow (x : ImgItem) : Array Value := #[.int .i64 (x.1.1 : Int), arrV x.1.2]
/-- some blocks stay as they are -/
def KeepB (S : List Nat) (W W' : World) : Prop := W.heap.size ≤ W'.heap.size ∧ ∀ b ∈ S, b < W.heap.size → W'.heap[b]? = W.heap[b]?
theorem KeepB.refl (S : List Nat) (W : World) : KeepB S W W := ⟨Nat.le_refl _, fun _ _ _ => rfl⟩
theorem KeepB.trans {S : List Nat} {A B C : World} (h : KeepB S A B) (k : KeepB S B C) : KeepB S A C := ⟨Nat.le_trans h.1 k.1, fun b hb hl => (k.2 b hb (Nat.lt_of_lt_of_le hl h.1)).trans (h.2 b hb hl)⟩
theorem KeepB.of {S T : List Nat} {A B : World} (h : Only T A B) (hT : ∀ b ∈ S, b ∉ T) : KeepB S A B := ⟨h.size, fun b hb hl => h.block b hl (hT b hb)⟩
theorem KeepB.cell {S : List Nat} {A B : World} (h : KeepB S A B) {b o : Nat} (hb : b ∈ S) {v : Value} (hc : A.cell? ⟨b, o, none⟩ = some v) : B.cell? ⟨b, o, none⟩ = some v := (World.cell?_of_block (h.2 b hb (lt_of_cell hc))).trans hc
theorem KeepB.dev {S : List Nat} {A B : World} (h : KeepB S A B) {tD tC : TypeId} {g cb cap : Nat} {D : Dev} (h1 : g ∈ S) (h2 : cb ∈ S) (hd : IsDev tD tC A g cb cap D) : IsDev tD tC B g cb cap D := by
  have l1 := hd.lt1
  have l2 := hd.lt2
  obtain ⟨a, ⟨cs, b, c⟩, d, e, f, k⟩ := hd
  exact ⟨(h.2 g h1 l1).trans a, ⟨cs, (h.2 cb h2 l2).trans b, c⟩, d, e, f, k⟩
set_option maxHeartbeats 4000000 in
theorem img_lines1 (n l Bd g cb cap : Nat) (D : Dev) (J Jx : List ImgItem → World → Prop) (W : World) (hJ : AbidesFrom W.heap.size J)
    (hY : ∀ pre x W, J pre W → pre.length < D.lines.length → YieldAt Fence.wide (n - 1) Try.prog l (encRow x) W fun e W' =>
      (e = .returned (.bool true) ∧ J (pre ++ [x]) W' ∧ KeepB [g, cb, Bd] W W') ∨ (e = .returned (.bool false) ∧ Jx (pre ++ [x]) W'))
    (hBd : W.cell? ⟨Bd, 0, none⟩ = some (.pointer (some ⟨g, 0, none⟩))) (hD : DevAt W g cb cap D) (h0 : J [] W) :
    CallsIn Fence.wide n Try.prog 69 #[.func (.yield l) #[] #[], .pointer (some ⟨Bd, 0, none⟩)] W fun e W' => (∃ v, e = .returned v) ∧
      ((∃ ys : List ImgItem, ys.map Subtype.val = items D.lines D.lines.length ∧ J ys W') ∨ (∃ pre, Jx pre W')) := by
  have hfew := hD.few
  have HIL := Lib.hid (fun k => items_length D.lines k)
  have HSU := Lib.hid (fun k x (hx : D.lines[k]? = some x) => items_succ hx)
  have HGET := Lib.hid (fun k (hk : k < D.lines.length) => (⟨D.lines[k], List.getElem?_eq_getElem hk⟩ : ∃ x, D.lines[k]? = some x))
  have H64 := Lib.hid (fun k x (hx : D.lines[k]? = some x) => (hD.ok x (List.mem_of_getElem? hx)).2.1)
  have HKE := Lib.hid (fun k x (hx : D.lines[k]? = some x) w hd => img_kept g cb cap D k x hx w hd)
  have HLI := Lib.hid (fun w hd => nvm_Lines g cb cap D w hd)
  have HD := Lib.hid hD
  have HY := Lib.hid hY
  have HJ := Lib.hid hJ
  have HB := Lib.hid hBd
  have HJ0 := Lib.hid h0
  have hBd' := hBd
  obtain ⟨i0, hi, hz0, hz1, hz2⟩ := info_parts Try.byteInfo
  have HI := Lib.hid hi
  clear hD hY hJ h0 hBd hi hz0 hz1 hz2
  obtain ⟨m, hm⟩ : ∃ m, m = D.lines.length := ⟨_, rfl⟩
  rw [← hm] at hfew HGET HLI HY ⊢
  have HM := Lib.hid hm
  clear hm
  refine callsIn_of_wp Try.func69 rfl trivial ?_ rfl
  simp only [Try.ntmps69, List.size_toArray, List.length_cons, List.length_nil, Nat.reduceAdd, Nat.reduceSub, Array.replicate_succ, Array.replicate_zero, List.push_toArray, List.append_toArray, List.nil_append, List.cons_append]
  gi_wp2_with fail
  refine ⟨trivial, fun h => (by cases h), ?_⟩
  refine (callsIn_wide.2 (HLI.out _ HD.out)).mono ?_
  rintro e w' ⟨rfl, rfl⟩
  gi_wp2
  gi_loopw [7] (fun i wr => ∃ k : Nat, k ≤ m ∧ i = .int .i64 k ∧ (∃ ys : List ImgItem, ys.map Subtype.val = items D.lines k ∧ J ys wr) ∧ KeepB [g, cb, Bd] W wr) (fun i _ => m - (intOf i).toNat)
  case atStart => exact ⟨0, Nat.zero_le _, rfl, ⟨[], rfl, HJ0.out⟩, KeepB.refl _ _⟩
  case round =>
    obtain ⟨k, hk, rfl, ⟨ys, hys, hJs⟩, hnx⟩ := hrel
    have hsz := hnx.1
    have hyl : ys.length = (items D.lines k).length := by rw [← hys, List.length_map]
    by_cases hlt : k < m
    · obtain ⟨x, hx⟩ := HGET.out k hlt
      have DW := Lib.hid (hnx.dev (by simp) (by simp) HD.out)
      have hcB : wr.cell? ⟨Bd, 0, none⟩ = some (.pointer (some ⟨g, 0, none⟩)) := hnx.cell (by simp) HB.out
      have HK := Lib.hid (HKE.out k x hx wr DW.out)
      have h64 := H64.out k x hx
      have hsu := HSU.out k x hx
      have hil := HIL.out k
      have HLEN := Lib.hid (show (Try.prog.info? 70).map (·.size) = some x.kept.length by rw [h64]; exact imgSize)
      generalize x.kept = r at *
      have HSUK := Lib.hid hsu
      have HJS := Lib.hid hJs
      have HNX := Lib.hid hnx
      clear hx hsu hJs hnx hBd'
      have y1 : decide ((k : Int) < (m : Int)) = true := by rw [decide_eq_true_eq]; omega
      gi_wp2_with fail
      refine ⟨trivial, fun h => (by cases h), ?_⟩
      refine (callsIn_wide.2 HK.out).mono ?_
      rintro e w4 ⟨rfl, o4⟩
      by_cases hz : r = zrow
      · rw [if_pos hz] at HSUK
        have hne : ∀ w, (binOp .neq 70 (arrV r) (arrV zrow)).run Try.prog w = .ok (.bool false) w := fun w => by rw [img_neq r zrow h64 (by simp [zrow])]; simp [hz]
        have hgd := fun (a b : Operand) (w : World) => eqGuard_arr (P := Try.prog) imgGuard .neq a b r zrow w
        clear hz
        gi_wp2_with (first
          | ((with_reducible show wpListIn _ _ _ _ _ (Oper.mk (some 4) _ _ _ _ _ :: _) _ _); refine wpListIn_of_list .out rfl (by intro c h; cases h) ?_; refine wpList_alloc_arr rfl 70 rfl _ imgZero ?_; intro w5 hb5 ho5 hs5; show wpListIn _ _ _ _ _ _ _ _)
          | ((with_reducible show wpListIn _ _ _ _ _ (Oper.mk none _ _ _ _ _ :: _) _ _); refine wpListIn_of_list .out rfl (by intro c h; cases h) ?_; refine wpList_store_arr rfl 70 (.tmp 4) (.tmp 12) rfl w4.heap.size r rfl rfl _ _ hb5 (by rw [h64]; simp) HLEN.out ?_; intro w6 hb6 ho6 hs6; have on6 : Only [] wr w6 := (o4.trans0 ho5).trans ho6 (by have := o4.size; simp; omega); have HB6 := Lib.hid hb6; have ON6 := Lib.hid on6; have j6 : J ys w6 := HJ.out _ _ _ none HJS.out (Only.grown on6) (fun r e => by cases e); have J6 := Lib.hid j6;  clear on6 j6; show wpListIn _ _ _ _ _ _ _ _)
          | ((with_reducible show wpListIn _ _ _ _ _ (Oper.mk (some 13) _ _ _ _ _ :: _) _ _); refine wpListIn_of_list .out rfl (by intro c h; cases h) ?_; refine wpList_load_arr rfl 70 (.tmp 4) rfl w4.heap.size 0 rfl r (Arr.bs HB6.out) 64 5 Try.underlying70 HLEN.out ?_; show wpListIn _ _ _ _ _ _ _ _)
          | ((with_reducible show wpListIn _ _ _ _ _ (Oper.mk (some 14) _ _ _ _ _ :: _) _ _); refine wpListIn_of_list .out rfl (by intro c h; cases h) ?_; refine wpList_build_zero rfl 70 rfl zrow imgZero 64 5 Try.underlying70 i0 HI.out ?_; show wpListIn _ _ _ _ _ _ _ _)
          | ((with_reducible show wpListIn _ _ _ _ _ (Oper.mk (some 19) _ _ _ _ _ :: _) _ _); refine wpListIn_of_wp .out (by simp [Region.wanted, yielded]) (by intro c h; cases h) ?_; refine wp_load_mid 70 (.tmp 4) rfl w4.heap.size 0 rfl (r.map B) _ (Sl.range (Arr.bs HB6.out)) Try.underlying70 rfl (by rw [List.length_map]; exact HLEN.out) ?_; show wpListIn _ _ _ _ _ _ _ _)
          | ((with_reducible show wpListIn _ _ _ _ _ (Oper.mk (some 20) _ _ _ _ _ :: _) _ _); refine wpListIn_skipW .out (by simp [Region.wanted, yielded]) ?_))
        go_roundw
        · exact ⟨k + 1, by omega, by simp, ⟨ys, by rw [HSUK.out]; exact hys, J6.out⟩, HNX.out.trans (KeepB.of ON6.out (by simp))⟩
        · simp [intOf]
          omega
      · rw [if_neg hz] at HSUK
        have hne : ∀ w, (binOp .neq 70 (arrV r) (arrV zrow)).run Try.prog w = .ok (.bool true) w := fun w => by rw [img_neq r zrow h64 (by simp [zrow])]; simp [hz]
        have hgd := fun (a b : Operand) (w : World) => eqGuard_arr (P := Try.prog) imgGuard .neq a b r zrow w
        clear hz
        gi_wp2_with (first
          | ((with_reducible show wpListIn _ _ _ _ _ (Oper.mk (some 4) _ _ _ _ _ :: _) _ _); refine wpListIn_of_list .out rfl (by intro c h; cases h) ?_; refine wpList_alloc_arr rfl 70 rfl _ imgZero ?_; intro w5 hb5 ho5 hs5; show wpListIn _ _ _ _ _ _ _ _)
          | ((with_reducible show wpListIn _ _ _ _ _ (Oper.mk none _ _ _ _ _ :: _) _ _); refine wpListIn_of_list .out rfl (by intro c h; cases h) ?_; refine wpList_store_arr rfl 70 (.tmp 4) (.tmp 12) rfl w4.heap.size r rfl rfl _ _ hb5 (by rw [h64]; simp) HLEN.out ?_; intro w6 hb6 ho6 hs6; have on6 : Only [] wr w6 := (o4.trans0 ho5).trans ho6 (by have := o4.size; simp; omega); have HB6 := Lib.hid hb6; have ON6 := Lib.hid on6; have j6 : J ys w6 := HJ.out _ _ _ none HJS.out (Only.grown on6) (fun r e => by cases e); have J6 := Lib.hid j6; obtain ⟨fn, tmps, assign, body, hy, hR⟩ := HY.out ys ⟨(k, r), by omega, h64⟩ w6 j6 (by omega); dsimp only [encRow, arrV] at hy; have HR := Lib.hid hR; clear hR; clear on6 j6; show wpListIn _ _ _ _ _ _ _ _)
          | ((with_reducible show wpListIn _ _ _ _ _ (Oper.mk (some 13) _ _ _ _ _ :: _) _ _); refine wpListIn_of_list .out rfl (by intro c h; cases h) ?_; refine wpList_load_arr rfl 70 (.tmp 4) rfl w4.heap.size 0 rfl r (Arr.bs HB6.out) 64 5 Try.underlying70 HLEN.out ?_; show wpListIn _ _ _ _ _ _ _ _)
          | ((with_reducible show wpListIn _ _ _ _ _ (Oper.mk (some 14) _ _ _ _ _ :: _) _ _); refine wpListIn_of_list .out rfl (by intro c h; cases h) ?_; refine wpList_build_zero rfl 70 rfl zrow imgZero 64 5 Try.underlying70 i0 HI.out ?_; show wpListIn _ _ _ _ _ _ _ _)
          | ((with_reducible show wpListIn _ _ _ _ _ (Oper.mk (some 19) _ _ _ _ _ :: _) _ _); refine wpListIn_of_wp .out (by simp [Region.wanted, yielded]) (by intro c h; cases h) ?_; refine wp_load_mid 70 (.tmp 4) rfl w4.heap.size 0 rfl (r.map B) _ (Sl.range (Arr.bs HB6.out)) Try.underlying70 rfl (by rw [List.length_map]; exact HLEN.out) ?_; show wpListIn _ _ _ _ _ _ _ _))
        refine ⟨fun h => (by cases h), ?_⟩
        refine HR.out.mono ?_
        rintro e W3 (⟨rfl, hJ3, hk3⟩ | ⟨rfl, hJx3⟩)
        · have HJ3 := Lib.hid hJ3
          have HK3 := Lib.hid hk3
          clear hJ3 hk3
          gi_wp2
          go_roundw
          · exact ⟨k + 1, by omega, by simp, ⟨_, by rw [HSUK.out, List.map_append, hys]; rfl, HJ3.out⟩, (HNX.out.trans (KeepB.of ON6.out (by simp))).trans HK3.out⟩
          · simp [intOf]
            omega
        · gi_wp2
          refine bodyPost_ret (results_none rfl _ _ _) rfl ?_
          exact ⟨⟨_, rfl⟩, .inr ⟨_, hJx3⟩⟩
    · obtain rfl : k = m := by omega
      gi_wp2
      go_end0
      exact ⟨⟨_, rfl⟩, .inl ⟨_, hys, hJs⟩⟩
end Go.Proofs.Ytkbgoloedlpflaa
/- Package image: Dump. -/
namespace Go.Proofs.Ytkbgoloedlpflaa
open Go.RowKit Go.Shelf Go.Proofs.FuMem Go.Proofs.FuNvm Go.Proofs.FuCode Go.Proofs.FuCrc Go.Proofs.FuFence Go.Proofs.FuImg
set_option maxRecDepth 100000
attribute [local go_sem] Oper.semAt_some
theorem img_Dump_nil (w : World) : Calls Try.prog 18 #[.pointer none] w fun e w' => e = .returned (.tuple #[.slice none 0 0, .int .i64 1]) ∧ w = w' := by
  go_enter Try.func18, Try.ntmps18
  go_wp2
  go_ret2
  exact ⟨rfl, rfl⟩
/-- 'out = append(out, l...)' of a variable that lies in a box -/
theorem app_box {w0 W W4 : World} {Bo N n2 c c2 : Nat} {A A2 : Option Addr} {L l : List UInt8} (hb : w0.heap.size ≤ W.heap.size) (bv : Boxed W Bo 22 (.slice A N c)) (hrow : W.ownsRow w0.heap.size 5 1 (.slice A N c) N (L.map B))
    (o4 : Only [] W W4) (X : Bs W4 A2 n2 l) (hN : N + n2 ≤ 1000000) (hBo : w0.heap.size ≤ Bo) :
    ∃ A5 c5 w5, (Builtin.append_ #[22, 22] 22 #[.slice A N c, .slice A2 n2 c2]).run Try.prog W4 = .ok (.slice A5 (N + n2) c5) w5 ∧ w5.cell? ⟨Bo, 0, none⟩ = some (.slice A N c) ∧ w5.frozen? ⟨Bo, 0, none⟩ = false ∧
      Boxed (w5.setCell ⟨Bo, 0, none⟩ (.slice A5 (N + n2) c5)) Bo 22 (.slice A5 (N + n2) c5) ∧ (w5.setCell ⟨Bo, 0, none⟩ (.slice A5 (N + n2) c5)).ownsRow w0.heap.size 5 1 (.slice A5 (N + n2) c5) (N + n2) ((L ++ l).map B) ∧
      ∃ U, Only U W (w5.setCell ⟨Bo, 0, none⟩ (.slice A5 (N + n2) c5)) ∧ ∀ b ∈ U, w0.heap.size ≤ b ∧ ∃ cs t, W.heap[b]? = some (.cells cs t (0, 0)) ∧ (t = 22 ∨ t = 5) := by
  obtain ⟨i0, hi, hz0, hz1, hz2⟩ := info_parts Try.byteInfo
  have h4 := own_only hrow o4 (by simp)
  obtain ⟨v', w5, hrun, h2, h3, _⟩ := run_append_sl (P := Try.prog) W4 w0.heap.size 22 22 5 i0 _ 1 Try.underlying22 hi hz0 hz1 hz2 rfl (.slice A N c) N _ h4 A2 n2 c2 (l.map B) X one_B (by unfold maxLen; omega) (by omega) (Nat.le_trans hb o4.size)
  obtain ⟨A5, c5, rfl, _, _⟩ := own_slice h2
  have bv4 : Boxed W4 Bo 22 (.slice A N c) := (o4.block Bo bv.lt (by simp)).trans bv
  have bv5 : Boxed w5 Bo 22 (.slice A N c) := bv4.kept h3 (bv4.not_row (by decide) h4)
  have hne5 := bv5.not_row (by decide) h2
  have hV : Only ((Value.slice A N c).ownBlock.toList) W4 w5 := Only.of_grown h3 fun k hk => .inl (by simp [hk])
  have ho6 : Only [Bo] w5 (w5.setCell ⟨Bo, 0, none⟩ (.slice A5 (N + n2) c5)) := (Only.refl _ _).setCell (.inl (by simp)) _
  refine ⟨A5, c5, w5, hrun, bv5.cell, bv5.frozen, bv5.set _, ?_, Bo :: (Value.slice A N c).ownBlock.toList, ?_, ?_⟩
  · rw [List.map_append]
    exact own_only h2 ho6 (fun k hk hm => hne5 (by rw [List.mem_singleton] at hm; rw [hk, hm]))
  · exact ((o4.mono (by simp)).trans hV (fun b hm => .inl (by simp only [List.mem_cons]; exact .inr hm))).trans ho6 (fun b hm => .inl (by rw [List.mem_singleton] at hm; simp [hm]))
  · intro b hm
    rcases List.mem_cons.1 hm with rfl | hm
    · exact ⟨hBo, _, _, bv, .inl rfl⟩
    · have hk : (Value.slice A N c).ownBlock = some b := by simpa using hm
      rcases hrow.2 with ⟨e1, _⟩ | ⟨g, cap, cur, e1, hbg, hg, _⟩
      · rw [e1] at hk
        simp [Value.ownBlock] at hk
      · rw [e1] at hk
        have : g = b := by simpa [Value.ownBlock] using hk
        subst this
        exact ⟨hbg, _, _, hg, .inr rfl⟩
/-- append to a slice of the call's own: what turns -/
theorem app_run {w0 W W4 : World} {N n2 c c2 : Nat} {A A2 : Option Addr} {L l : List UInt8} (hb : w0.heap.size ≤ W.heap.size) (hrow : W.ownsRow w0.heap.size 5 1 (.slice A N c) N (L.map B))
    (o4 : Only [] W W4) (X : Bs W4 A2 n2 l) (hN : N + n2 ≤ 1000000) :
    ∃ A5 c5 w5, (Builtin.append_ #[22, 22] 22 #[.slice A N c, .slice A2 n2 c2]).run Try.prog W4 = .ok (.slice A5 (N + n2) c5) w5 ∧ w5.ownsRow w0.heap.size 5 1 (.slice A5 (N + n2) c5) (N + n2) ((L ++ l).map B) ∧
      ∃ U, Only U W w5 ∧ ∀ b ∈ U, w0.heap.size ≤ b ∧ ∃ cs t, W.heap[b]? = some (.cells cs t (0, 0)) ∧ t = 5 := by
  obtain ⟨i0, hi, hz0, hz1, hz2⟩ := info_parts Try.byteInfo
  have h4 := own_only hrow o4 (by simp)
  obtain ⟨v', w5, hrun, h2, h3, _⟩ := run_append_sl (P := Try.prog) W4 w0.heap.size 22 22 5 i0 _ 1 Try.underlying22 hi hz0 hz1 hz2 rfl (.slice A N c) N _ h4 A2 n2 c2 (l.map B) X one_B (by unfold maxLen; omega) (by omega) (Nat.le_trans hb o4.size)
  obtain ⟨A5, c5, rfl, _, _⟩ := own_slice h2
  have hV : Only ((Value.slice A N c).ownBlock.toList) W4 w5 := Only.of_grown h3 fun k hk => .inl (by simp [hk])
  refine ⟨A5, c5, w5, hrun, by rw [List.map_append]; exact h2, (Value.slice A N c).ownBlock.toList, (o4.mono (by simp)).trans hV (fun b hm => .inl hm), ?_⟩
  intro b hm
  have hk : (Value.slice A N c).ownBlock = some b := by simpa using hm
  rcases hrow.2 with ⟨e1, _⟩ | ⟨g, cap, cur, e1, hbg, hg, _⟩
  · rw [e1] at hk
    simp [Value.ownBlock] at hk
  · rw [e1] at hk
    have : g = b := by simpa [Value.ownBlock] using hk
    subst this
    exact ⟨hbg, _, _, hg, rfl⟩
theorem notin_U {W : World} {n0 b : Nat} {U : List Nat} (hU : ∀ b ∈ U, n0 ≤ b ∧ ∃ cs t, W.heap[b]? = some (.cells cs t (0, 0)) ∧ (t = 22 ∨ t = 5)) {cs : Array Value} {t : TypeId} (h : W.heap[b]? = some (.cells cs t (0, 0))) (h1 : t ≠ 22) (h2 : t ≠ 5) : b ∉ U := fun hm => by
  obtain ⟨_, cs', t', e, ht⟩ := hU b hm
  rw [h] at e
  cases e
  rcases ht with h3 | h3
  · exact h1 h3
  · exact h2 h3
theorem low_U {W : World} {n0 b : Nat} {U : List Nat} (hU : ∀ b ∈ U, n0 ≤ b ∧ ∃ cs t, W.heap[b]? = some (.cells cs t (0, 0)) ∧ (t = 22 ∨ t = 5)) (h : b < n0) : b ∉ U := fun hm => by
  have := (hU b hm).1
  omega
theorem cells_U {W : World} {n0 : Nat} {U : List Nat} (hU : ∀ b ∈ U, n0 ≤ b ∧ ∃ cs t, W.heap[b]? = some (.cells cs t (0, 0)) ∧ (t = 22 ∨ t = 5)) : ∀ b ∈ U, ∀ o, W.heap[b]? = some o → o.isCells = true := fun b hm o ho => by
  obtain ⟨_, cs', t', e, _⟩ := hU b hm
  rw [ho] at e
  cases e
  rfl
theorem img_seq (n g cb cap Bd : Nat) (D : Dev) (w : World) (hBd : w.cell? ⟨Bd, 0, none⟩ = some (.pointer (some ⟨g, 0, none⟩))) (hD : DevAt w g cb cap D) :
    SeqStopsK Fence.wide n Try.prog 69 #[.pointer (some ⟨Bd, 0, none⟩)] encRow (KeepB [g, cb, Bd]) (fun ys => ys.map Subtype.val = items D.lines D.lines.length) (fun _ => True) D.lines.length w := fun l J Jx W hW hJ _ hY h0 => by
  have l1 := hD.lt1
  have l2 := hD.lt2
  have l3 := lt_of_cell hBd
  refine (img_lines1 n l Bd g cb cap D J Jx W hJ hY ((hW.cell (p := ⟨Bd, 0, none⟩) l3).trans hBd) (IsDev.below hD hW l1 l2) h0).mono ?_
  rintro e W' ⟨he, ⟨ys, hys, hj⟩ | ⟨pre, hj⟩⟩
  · exact ⟨he, .inl ⟨ys, hys, hj⟩⟩
  · exact ⟨he, .inr ⟨pre, trivial, hj⟩⟩
set_option maxHeartbeats 4000000 in
theorem img_Dump (g cb cap : Nat) (D : Dev) (w : World) (hd : DevAt w g cb cap D) :
    Calls Try.prog 18 #[.pointer (some ⟨g, 0, none⟩)] w fun e w' => ∃ x, e = .returned (.tuple #[x, .int .i64 0]) ∧ MadeB w (imgOf D) x w' := by
  obtain ⟨i0, hi, hz0, hz1, hz2⟩ := info_parts Try.byteInfo
  have HI := Lib.hid hi
  have HZ0 := Lib.hid hz0
  have HZ1 := Lib.hid hz1
  have HZ2 := Lib.hid hz2
  have hfew := hd.few
  have HLI := Lib.hid (fun w hd => nvm_Lines g cb cap D w hd)
  have HBY := Lib.hid (fun v n w h1 h8 hv => img_bytes v n w h1 h8 hv)
  have HSQ := Lib.hid (fun n Bd w hB hD => img_seq n g cb cap Bd D w hB hD)
  have HD := Lib.hid hd
  have HIM : Hid (∀ ys : List ImgItem, ys.map Subtype.val = items D.lines D.lines.length → bodyB D.lines.length (ys.map Subtype.val) ++ lay 4 (crc (bodyB D.lines.length (ys.map Subtype.val))) = imgOf D) := Lib.hid (fun ys h => by rw [h]; rfl)
  have hcv : (convert 22 22 (.slice (some ⟨w.heap.size, 0, none⟩) 4 4)).run Try.prog (w.alloc (.cells #[.int .u8 70, .int .u8 83, .int .u8 73, .int .u8 49] 5)) = .ok (.slice (some ⟨w.heap.size, 0, none⟩) 4 4) (w.alloc (.cells #[.int .u8 70, .int .u8 83, .int .u8 73, .int .u8 49] 5 (4, 5))) :=
    Lib.run_convert_bytes_const w 22 5 #[.int .u8 70, .int .u8 83, .int .u8 73, .int .u8 49] 4 4 Try.underlying22 Try.underlying5
  have hn0 : Only [] w (w.alloc (.cells #[.int .u8 70, .int .u8 83, .int .u8 73, .int .u8 49] 5 (4, 5))) := (Only.refl _ _).alloc _
  have hc0 : ∀ j u, ([.int .u8 70, .int .u8 83, .int .u8 73, .int .u8 49] : List Value)[j]? = some u → (w.alloc (.cells #[.int .u8 70, .int .u8 83, .int .u8 73, .int .u8 49] 5 (4, 5))).cell? ((⟨w.heap.size, 0, none⟩ : Addr).add j) = some u := fun j u hu => by
    rw [Addr.add_lit, World.cell?_alloc_mark]
    simpa using hu
  obtain ⟨w1, hw1⟩ : ∃ w1, w1 = w.alloc (.cells #[.int .u8 70, .int .u8 83, .int .u8 73, .int .u8 49] 5 (4, 5)) := ⟨_, rfl⟩
  rw [← hw1] at hc0 hn0 hcv
  have hs1 : w1.heap.size = w.heap.size + 1 := by rw [hw1]; simp
  have HC0 := Lib.hid hc0
  have HN0 := Lib.hid hn0
  clear hd hi hz0 hz1 hz2 hc0 hn0 hw1
  generalize imgOf D = img at *
  obtain ⟨m, hm⟩ : ∃ m, m = D.lines.length := ⟨_, rfl⟩
  rw [← hm] at HIM hfew HLI
  have HM := Lib.hid hm
  clear hm
  refine (callsIn_wide (n := 3)).1 ?_
  refine callsIn_of_wp_marks Try.func18 rfl trivial ?_ rfl
  simp only [Try.ntmps18, List.size_toArray, List.length_cons, List.length_nil, Nat.reduceAdd, Nat.reduceSub, Array.replicate_succ, Array.replicate_zero, List.push_toArray, List.append_toArray, List.nil_append, List.cons_append]
  gi_wp2_with fail
  refine ⟨trivial, ?_⟩
  refine (callsIn_wide.2 (HLI.out _ (HD.out.only0 HN0.out))).mono ?_
  rintro e w' ⟨rfl, rfl⟩
  have hwm : IntKind.u64.wrap (m : Int) = (m : Int) := by rw [IntKind.wrap_u64]; omega
  gi_wp2_with fail
  refine ⟨trivial, ?_⟩
  refine (callsIn_wide.2 (HBY.out m 2 w1 (by omega) (by omega) (by omega))).mono ?_
  rintro e w2 ⟨v2, rfl, m2⟩
  obtain ⟨g2, c2, rfl, b2, f2, o2⟩ := madeB_get m2 (by rw [lay_length]; omega)
  have h2l := lay_length 2 m
  have hcell2 := fun k hk => b2.cell k hk
  rw [h2l] at hcell2 ⊢
  obtain ⟨v3, w3, hr3, b3, g3⟩ := run_append_arg_grows (P := Try.prog) w2 22 22 5 i0 _ 1 1 Try.underlying22 HI.out HZ0.out HZ1.out HZ2.out rfl (by omega) ⟨w.heap.size, 0, none⟩ 4 4 [.int .u8 70, .int .u8 83, .int .u8 73, .int .u8 49] rfl (fun j u hu => by
    have := HC0.out j u hu
    rw [Addr.add_lit] at this ⊢
    exact (cell_only o2 (by omega) (by simp)).trans this) ⟨g2, 0, none⟩ 2 c2 ((lay 2 m).map B) (by simp [h2l]) (fun j u hu => by
    have hj : j < 2 := by have := (List.getElem?_eq_some_iff.1 hu).1; simpa [h2l] using this
    rw [Addr.add_lit, Nat.zero_add, hcell2 j hj]
    rw [List.getElem?_map, List.getElem?_eq_getElem (by rw [h2l]; exact hj)] at hu
    rw [← Option.some.inj hu]
    simp [B, List.getD, h2l, hj]) (by omega) (by unfold maxLen; omega) (by omega)
  obtain ⟨A3, c3, rfl, _, _⟩ := own_slice b3
  have e3 : ([.int .u8 70, .int .u8 83, .int .u8 73, .int .u8 49] : List Value) ++ (lay 2 m).map B = (bodyB m []).map B := rfl
  rw [e3] at b3
  have b3' := World.ownsRow.mono b3 (Nat.le_trans HN0.out.size o2.size)
  have on3 : Only [] w w3 := (HN0.out.trans0 o2).trans0 ⟨g3.os, g3.tape, g3.output, g3.size, fun k hk _ => g3.block k hk (by simp)⟩
  have B3 := Lib.hid b3'
  have O3 := Lib.hid on3
  clear b3 b3' g3 on3 m2 b2 f2 o2 h2l hcell2 e3
  gi_wp2_with ((with_reducible show wpListIn _ _ _ _ _ (Oper.mk (some 15) _ _ _ _ _ :: _) _ _); refine wpListIn_of_list .out rfl (by intro c h; cases h) ?_; refine wpList_append_run _ rfl (.tmp 10) (.tmp 14) 22 rfl _ _ rfl rfl _ _ hr3 ?_; show wpListIn _ _ _ _ _ _ _ _)
  clear hr3 hcv
  refine ⟨trivial, ?_⟩
  refine (callsIn_wide.2 (img_lines g _)).mono ?_
  rintro e w' ⟨rfl, rfl⟩
  gi_wp2
  have bO := Boxed.new w3 22 (.slice A3 6 c3)
  have bD := Boxed.new (w3.alloc (.cells #[.slice A3 6 c3] 22)) 25 (.pointer (some ⟨g, 0, none⟩))
  have hO4 : Only [] w ((w3.alloc (.cells #[.slice A3 6 c3] 22)).alloc (.cells #[.pointer (some ⟨g, 0, none⟩)] 25)) := (O3.out.alloc _).alloc _
  have hr4 := ((B3.out.alloc (.cells #[.slice A3 6 c3] 22)).alloc (.cells #[.pointer (some ⟨g, 0, none⟩)] 25))
  have e6 : (bodyB m []).length = 6 := by show (headB m ++ []).length = 6; rw [List.append_nil, headB_length]
  obtain ⟨W0, hW0⟩ : ∃ W0, W0 = (w3.alloc (.cells #[.slice A3 6 c3] 22)).alloc (.cells #[.pointer (some ⟨g, 0, none⟩)] 25) := ⟨_, rfl⟩
  have hs0 : W0.heap.size = w3.heap.size + 2 := by rw [hW0]; simp
  have bO4 := bO.alloc (.cells #[.pointer (some ⟨g, 0, none⟩)] 25)
  rw [World.size_alloc] at bD
  rw [← hW0] at hO4 hr4 bD bO4 ⊢
  have hsw := O3.out.size
  have hD0 := HD.out.only0 hO4
  have lg := HD.out.lt1
  have lcb := HD.out.lt2
  clear bO
  refine wpIn_rangeFunc_ownH (F := Fence.wide) (n := 3) rfl (by omega) (gf := 69) (lb := #[.pointer (some ⟨w3.heap.size + 1, 0, none⟩)]) rfl trivial (enters_of Try.func69 (by kernel_rfl) rfl)
    (HSQ.out _ (w3.heap.size + 1) W0 bD.cell hD0) (fun h k => KeepB.trans h k)
    (fun W l o o' hl h _ _ => ⟨(grownBy_putObj' W l o').size, fun b hb hlt => (grownBy_putObj' W l o').block b hlt (by simp at hb; intro e; cases e; omega)⟩)
    (Below.refl _ _) (fun _ => rfl)
    (fun pre W => (∃ v, Boxed W w3.heap.size 22 v ∧ W.ownsRow w.heap.size 5 1 v (bodyB m (pre.map Subtype.val)).length ((bodyB m (pre.map Subtype.val)).map B) ∧ True) ∧ Boxed W (w3.heap.size + 1) 25 (.pointer (some ⟨g, 0, none⟩)) ∧ Below w.heap.size w W)
    (fun _ _ _ => False)
    (OwnFrom.and (Own.from (holdsRow_own w.heap.size w3.heap.size 22 5 1 (fun pre : List ImgItem => (bodyB m (pre.map Subtype.val)).length) (fun pre => (bodyB m (pre.map Subtype.val)).map B) (fun _ _ => True)) _) (OwnFrom.and (Own.from (boxed_own _ _ _) _) (ownFrom_below (Nat.le_refl _) (by omega))))
    (fun _ _ _ _ _ hs _ _ => hs)
    ⟨⟨_, bO4, by rw [List.map_nil, e6]; exact hr4, trivial⟩, bD, hO4.below (Nat.le_refl _) (by simp)⟩
    (fun x a' W => ∃ Br, w3.heap.size < Br ∧ Arr W Br 70 x.1.2 ∧ a' = { tmps := #[.pointer (some ⟨g, 0, none⟩), undef, .slice none 0 0, .int .i64 0, .pointer (some ⟨w3.heap.size, 0, none⟩), .int .i64 (x.1.1 : Int), .pointer (some ⟨Br, 0, none⟩), .pointer (some ⟨g, 0, none⟩), .bool false, .slice (some ⟨w.heap.size, 0, none⟩) 4 4, .slice (some ⟨w.heap.size, 0, none⟩) 4 4, .pointer (some ⟨g, 0, none⟩), .int .i64 m, .int .u64 m, .slice (some ⟨g2, 0, none⟩) 2 c2, .slice A3 6 c3, .pointer (some ⟨g, 0, none⟩), .func (.func 69) #[] #[.pointer (some ⟨w3.heap.size + 1, 0, none⟩)], .int .i64 (x.1.1 : Int), arrV x.1.2, undef, undef, undef, undef, undef, undef, undef, undef, undef, undef, undef, undef, undef, undef], defers := [] })
    (fun x a' _ X Y row hs hg hr => by
      obtain ⟨Br, h1, h2, h3⟩ := hs
      refine ⟨Br, h1, (hg.block Br h2.lt fun e => ?_).trans h2, h3⟩
      obtain ⟨_, o, ho, hc⟩ := hr Br e.symm
      rw [show X.heap[Br]? = _ from h2] at ho
      cases ho
      cases hc) ?assign ?body ?done ?stop
  case assign =>
    rintro l pre x W K ⟨⟨v, bv, hrow, _⟩, bd, hB⟩ hK
    have hSZ : (Try.prog.info? 70).map (·.size) = some x.1.2.length := by rw [x.2.2]; exact imgSize
    have HSZ := Lib.hid hSZ
    clear hSZ
    dsimp only [encRow]
    gi_wp2_with (first
      | ((with_reducible show wpListIn _ _ _ _ _ (Oper.mk (some 6) _ _ _ _ _ :: _) _ _); refine wpListIn_of_list (.round l) rfl (by intro c h; cases h) ?_; refine wpList_alloc_arr rfl 70 rfl _ imgZero ?_; intro w5 hb5 ho5 hs5; show wpListIn _ _ _ _ _ _ _ _)
      | ((with_reducible show wpListIn _ _ _ _ _ (Oper.mk none _ _ _ _ _ :: _) _ _); refine wpListIn_of_list (.round l) rfl (by intro c h; cases h) ?_; refine wpList_store_arr rfl 70 (.tmp 6) (.tmp 19) rfl W.heap.size x.1.2 rfl rfl _ _ hb5 (by rw [x.2.2]; simp) HSZ.out ?_; intro w6 hb6 ho6 hs6; show wpListIn _ _ _ _ _ _ _ _))
    have on6 : Only [] W w6 := ho5.trans ho6 (by simp)
    exact hK _ _ (keepsFrom_only on6 (by simp) _) (KeepB.of on6 (by simp)) ⟨⟨_, (on6.block _ bv.lt (by simp)).trans bv, own_only hrow on6 (by simp), trivial⟩, (on6.block _ bd.lt (by simp)).trans bd, hB.trans (on6.below hB.size (by simp))⟩ ⟨W.heap.size, bv.lt, hb6, rfl⟩
  case body =>
    rintro l pre x a' W hl ⟨r, hr⟩ ⟨⟨v, bv, hrow, _⟩, bd, hB⟩ ⟨Br, hbr, hArr, rfl⟩ hlt
    obtain ⟨A, c, rfl, _, _⟩ := own_slice hrow
    obtain ⟨N, hN⟩ : ∃ N, N = (bodyB m (pre.map Subtype.val)).length := ⟨_, rfl⟩
    have hN1 : N ≤ 100000 := by rw [hN, bodyB_length]; have := HM.out; omega
    rw [← hN] at bv hrow
    have APP := Lib.hid (fun W4 A2 n2 c2 (l : List UInt8) o4 X (h : N + n2 ≤ 1000000) => app_box (w0 := w) (W := W) (W4 := W4) (A2 := A2) (n2 := n2) (c2 := c2) (l := l) hB.size bv hrow o4 X h (by omega))
    have HN := Lib.hid hN
    clear hN
    have hcv := bv.cell
    have hcf := bv.frozen
    have hwx : IntKind.u64.wrap (x.1.1 : Int) = (x.1.1 : Int) := by rw [IntKind.wrap_u64]; have := x.2.1; omega
    have hx16 := x.2.1
    have HCALL := Lib.hid (fun u => HBY.out x.1.1 2 u (by omega) (by omega) (by omega))
    have hcvd : W.drew.cell? ⟨w3.heap.size, 0, none⟩ = some (.slice A N c) := hcv
    gi_wp2_with fail
    refine regionIn_any (.round l) (by kernel_rfl) (by kernel_rfl) ?_
    refine wpAny_take (i := 1) (v := .int .i64 (x.1.1 : Int)) rfl (by kernel_rfl) (by kernel_rfl) (by kernel_rfl) (fun _ _ _ h => h) (Or.inl ⟨by rfl, fun w => by go_simp⟩) ?_
    refine wpAny_take (i := 2) (v := .int .u64 (x.1.1 : Int)) rfl (by kernel_rfl) (by kernel_rfl) (by kernel_rfl) (fun _ _ _ h => h) (Or.inl ⟨by rfl, fun w => by go_simp⟩) ?_
    refine wpAny_ready (rs := [0, 3]) (by kernel_rfl) (by simp) ?_
    refine AllReady.cons rfl (fun K hK => ?_) (AllReady.cons rfl (fun K hK => ?_) AllReady.nil)
    · go_simp
      refine hK _ _ ?_
      clear hK K
      refine wpAny_ready (rs := [3]) (by kernel_rfl) (by simp) ?_
      refine AllReady.cons rfl (fun K hK => ?_) AllReady.nil
      go_simp
      refine (HCALL.out _).mono ?_
      rintro e w4 ⟨v4, rfl, m4⟩
      obtain ⟨A4, c4, rfl, b4, o4⟩ := m4
      have o4' : Only [] W w4 := (Only.refl [] W).drew.trans0 o4
      have hcv4 : w4.cell? ⟨w3.heap.size, 0, none⟩ = some (.slice A N c) := (cell_only o4' (lt_of_cell hcv) (by simp)).trans hcv
      obtain ⟨A5, c5, w5, hr5, hc5, hf5, bx6, own6, U, ou6, hU⟩ := APP.out w4 A4 2 c4 (lay 2 x.1.1) o4' (by have := bs_own b4; rw [lay_length] at this; exact this) (by omega)
      have HBX6 := Lib.hid bx6
      have HOWN6 := Lib.hid own6
      have HOU6 := Lib.hid ou6
      have HU := Lib.hid hU
      have HC5 := Lib.hid hc5
      have HF5 := Lib.hid hf5
      rw [lay_length]
      clear b4 o4 o4' bx6 own6 ou6 hU hc5 hf5
      refine hK _ _ ?_
      clear hK K
      refine wpAny_ready (rs := [4]) (by kernel_rfl) (by simp) ?_
      refine AllReady.cons rfl (fun K hK => ?_) AllReady.nil
      rw [if_pos (by rfl)]
      refine wp_append_run (.tmp 20) (.tmp 23) 22 rfl _ _ rfl rfl _ _ hr5 ?_
      refine hK _ _ ?_
      clear hK K hr5 hcv4
      refine wpAny_ready (rs := [5]) (by kernel_rfl) (by simp) ?_
      refine AllReady.cons rfl (fun K hK => ?_) AllReady.nil
      have hc5 := HC5.out
      have hf5 := HF5.out
      go_simp
      refine hK _ _ ?_
      clear hK K hc5 hf5 HC5 HF5
      refine wpAny_done (by kernel_rfl) ?_ _
      simp only [normQ]
      obtain ⟨w6, hw6⟩ : ∃ w6, w6 = w5.setCell ⟨w3.heap.size, 0, none⟩ (.slice A5 (N + 2) c5) := ⟨_, rfl⟩
      rw [← hw6] at HBX6 HOWN6 HOU6 ⊢
      clear hw6
      have ar6 := hArr.only HOU6.out (notin_U HU.out hArr (by decide) (by decide))
      have bd6 : Boxed w6 (w3.heap.size + 1) 25 (.pointer (some ⟨g, 0, none⟩)) := (HOU6.out.block _ bd.lt (notin_U HU.out bd (by decide) (by decide))).trans bd
      have hB6 := hB.trans (HOU6.out.below hB.size (fun b hm => (HU.out b hm).1))
      have hxb : Bs w6.drew (some ⟨Br, 0, none⟩) 64 x.1.2 := by have := Arr.bs ar6; rw [x.2.2] at this; exact this
      obtain ⟨A7, c7, w7, hr7, hc7, hf7, bx8, own8, U2, ou8, hU2⟩ := app_box (w0 := w) (c2 := 64) hB6.size HBX6.out HOWN6.out ((Only.refl [] w6).drew) hxb (by omega) (by omega)
      have hcv6 : w6.drew.cell? ⟨w3.heap.size, 0, none⟩ = some (.slice A5 (N + 2) c5) := HBX6.out.cell
      have HBX8 := Lib.hid bx8
      have HOWN8 := Lib.hid own8
      have HOU8 := Lib.hid ou8
      have HU2 := Lib.hid hU2
      have HC7 := Lib.hid hc7
      have HF7 := Lib.hid hf7
      clear bx8 own8 ou8 hU2 hc7 hf7 hcv hcf hcvd
      gi_wp2_with fail
      refine regionIn_any (.round l) (by kernel_rfl) (by kernel_rfl) ?_
      refine wpAny_take (i := 1) (v := .slice (some ⟨Br, 0, none⟩) 64 64) rfl (by kernel_rfl) (by kernel_rfl) (by kernel_rfl) (fun _ _ _ h => h) (Or.inl ⟨by rfl, fun w => by go_simp⟩) ?_
      refine wpAny_ready (rs := [0]) (by kernel_rfl) (by simp) ?_
      refine AllReady.cons rfl (fun K hK => ?_) AllReady.nil
      go_simp
      refine hK _ _ ?_
      clear hK K
      refine wpAny_ready (rs := [2]) (by kernel_rfl) (by simp) ?_
      refine AllReady.cons rfl (fun K hK => ?_) AllReady.nil
      rw [if_pos (by rfl)]
      refine wp_append_run (.tmp 25) (.tmp 26) 22 rfl _ _ rfl rfl _ _ hr7 ?_
      refine hK _ _ ?_
      clear hK K hr7 hcv6
      refine wpAny_ready (rs := [3]) (by kernel_rfl) (by simp) ?_
      refine AllReady.cons rfl (fun K hK => ?_) AllReady.nil
      have hc7 := HC7.out
      have hf7 := HF7.out
      go_simp
      refine hK _ _ ?_
      clear hK K hc7 hf7 HC7 HF7
      refine wpAny_done (by kernel_rfl) ?_ _
      simp only [normQ]
      obtain ⟨w8, hw8⟩ : ∃ w8, w8 = w7.setCell ⟨w3.heap.size, 0, none⟩ (.slice A7 (N + 2 + 64) c7) := ⟨_, rfl⟩
      rw [← hw8] at HBX8 HOWN8 HOU8 ⊢
      clear hw8
      gi_wp2
      have eb : bodyB m ((pre ++ [x]).map Subtype.val) = bodyB m (pre.map Subtype.val) ++ lay 2 x.1.1 ++ x.1.2 := by rw [List.map_append]; exact bodyB_snoc m (pre.map Subtype.val) x.1
      have el : (bodyB m ((pre ++ [x]).map Subtype.val)).length = N + 2 + 64 := by rw [eb, List.length_append, List.length_append, lay_length, x.2.2, ← HN.out]
      refine ⟨(keepsFrom_only HOU6.out (cells_U HU.out) _).trans (keepsFrom_only HOU8.out (cells_U HU2.out) _), (KeepB.of HOU6.out fun b hb => ?_).trans (KeepB.of HOU8.out fun b hb => ?_), ⟨_, HBX8.out, by rw [el, eb]; exact HOWN8.out, trivial⟩, (HOU8.out.block _ bd6.lt (notin_U HU2.out bd6 (by decide) (by decide))).trans bd6, hB6.trans (HOU8.out.below hB6.size (fun b hm => (HU2.out b hm).1))⟩
      · simp at hb
        rcases hb with rfl | rfl | rfl
        · exact low_U HU.out lg
        · exact low_U HU.out lcb
        · exact notin_U HU.out bd (by decide) (by decide)
      · simp at hb
        rcases hb with rfl | rfl | rfl
        · exact low_U HU2.out lg
        · exact low_U HU2.out lcb
        · exact notin_U HU2.out bd6 (by decide) (by decide)
    · go_simp
      refine (HCALL.out _).mono ?_
      rintro e w4 ⟨v4, rfl, m4⟩
      obtain ⟨A4, c4, rfl, b4, o4⟩ := m4
      have o4' : Only [] W w4 := (Only.refl [] W).drew.trans0 o4
      have hcv4 : w4.cell? ⟨w3.heap.size, 0, none⟩ = some (.slice A N c) := (cell_only o4' (lt_of_cell hcv) (by simp)).trans hcv
      obtain ⟨A5, c5, w5, hr5, hc5, hf5, bx6, own6, U, ou6, hU⟩ := APP.out w4 A4 2 c4 (lay 2 x.1.1) o4' (by have := bs_own b4; rw [lay_length] at this; exact this) (by omega)
      have HBX6 := Lib.hid bx6
      have HOWN6 := Lib.hid own6
      have HOU6 := Lib.hid ou6
      have HU := Lib.hid hU
      have HC5 := Lib.hid hc5
      have HF5 := Lib.hid hf5
      rw [lay_length]
      clear b4 o4 o4' bx6 own6 ou6 hU hc5 hf5
      refine hK _ _ ?_
      clear hK K
      refine wpAny_ready (rs := [0]) (by kernel_rfl) (by simp) ?_
      refine AllReady.cons rfl (fun K hK => ?_) AllReady.nil
      go_simp
      refine hK _ _ ?_
      clear hK K
      refine wpAny_ready (rs := [4]) (by kernel_rfl) (by simp) ?_
      refine AllReady.cons rfl (fun K hK => ?_) AllReady.nil
      rw [if_pos (by rfl)]
      refine wp_append_run (.tmp 20) (.tmp 23) 22 rfl _ _ rfl rfl _ _ hr5 ?_
      refine hK _ _ ?_
      clear hK K hr5 hcv4
      refine wpAny_ready (rs := [5]) (by kernel_rfl) (by simp) ?_
      refine AllReady.cons rfl (fun K hK => ?_) AllReady.nil
      have hc5 := HC5.out
      have hf5 := HF5.out
      go_simp
      refine hK _ _ ?_
      clear hK K hc5 hf5 HC5 HF5
      refine wpAny_done (by kernel_rfl) ?_ _
      simp only [normQ]
      obtain ⟨w6, hw6⟩ : ∃ w6, w6 = w5.setCell ⟨w3.heap.size, 0, none⟩ (.slice A5 (N + 2) c5) := ⟨_, rfl⟩
      rw [← hw6] at HBX6 HOWN6 HOU6 ⊢
      clear hw6
      have ar6 := hArr.only HOU6.out (notin_U HU.out hArr (by decide) (by decide))
      have bd6 : Boxed w6 (w3.heap.size + 1) 25 (.pointer (some ⟨g, 0, none⟩)) := (HOU6.out.block _ bd.lt (notin_U HU.out bd (by decide) (by decide))).trans bd
      have hB6 := hB.trans (HOU6.out.below hB.size (fun b hm => (HU.out b hm).1))
      have hxb : Bs w6.drew (some ⟨Br, 0, none⟩) 64 x.1.2 := by have := Arr.bs ar6; rw [x.2.2] at this; exact this
      obtain ⟨A7, c7, w7, hr7, hc7, hf7, bx8, own8, U2, ou8, hU2⟩ := app_box (w0 := w) (c2 := 64) hB6.size HBX6.out HOWN6.out ((Only.refl [] w6).drew) hxb (by omega) (by omega)
      have hcv6 : w6.drew.cell? ⟨w3.heap.size, 0, none⟩ = some (.slice A5 (N + 2) c5) := HBX6.out.cell
      have HBX8 := Lib.hid bx8
      have HOWN8 := Lib.hid own8
      have HOU8 := Lib.hid ou8
      have HU2 := Lib.hid hU2
      have HC7 := Lib.hid hc7
      have HF7 := Lib.hid hf7
      clear bx8 own8 ou8 hU2 hc7 hf7 hcv hcf hcvd
      gi_wp2_with fail
      refine regionIn_any (.round l) (by kernel_rfl) (by kernel_rfl) ?_
      refine wpAny_take (i := 1) (v := .slice (some ⟨Br, 0, none⟩) 64 64) rfl (by kernel_rfl) (by kernel_rfl) (by kernel_rfl) (fun _ _ _ h => h) (Or.inl ⟨by rfl, fun w => by go_simp⟩) ?_
      refine wpAny_ready (rs := [0]) (by kernel_rfl) (by simp) ?_
      refine AllReady.cons rfl (fun K hK => ?_) AllReady.nil
      go_simp
      refine hK _ _ ?_
      clear hK K
      refine wpAny_ready (rs := [2]) (by kernel_rfl) (by simp) ?_
      refine AllReady.cons rfl (fun K hK => ?_) AllReady.nil
      rw [if_pos (by rfl)]
      refine wp_append_run (.tmp 25) (.tmp 26) 22 rfl _ _ rfl rfl _ _ hr7 ?_
      refine hK _ _ ?_
      clear hK K hr7 hcv6
      refine wpAny_ready (rs := [3]) (by kernel_rfl) (by simp) ?_
      refine AllReady.cons rfl (fun K hK => ?_) AllReady.nil
      have hc7 := HC7.out
      have hf7 := HF7.out
      go_simp
      refine hK _ _ ?_
      clear hK K hc7 hf7 HC7 HF7
      refine wpAny_done (by kernel_rfl) ?_ _
      simp only [normQ]
      obtain ⟨w8, hw8⟩ : ∃ w8, w8 = w7.setCell ⟨w3.heap.size, 0, none⟩ (.slice A7 (N + 2 + 64) c7) := ⟨_, rfl⟩
      rw [← hw8] at HBX8 HOWN8 HOU8 ⊢
      clear hw8
      gi_wp2
      have eb : bodyB m ((pre ++ [x]).map Subtype.val) = bodyB m (pre.map Subtype.val) ++ lay 2 x.1.1 ++ x.1.2 := by rw [List.map_append]; exact bodyB_snoc m (pre.map Subtype.val) x.1
      have el : (bodyB m ((pre ++ [x]).map Subtype.val)).length = N + 2 + 64 := by rw [eb, List.length_append, List.length_append, lay_length, x.2.2, ← HN.out]
      refine ⟨(keepsFrom_only HOU6.out (cells_U HU.out) _).trans (keepsFrom_only HOU8.out (cells_U HU2.out) _), (KeepB.of HOU6.out fun b hb => ?_).trans (KeepB.of HOU8.out fun b hb => ?_), ⟨_, HBX8.out, by rw [el, eb]; exact HOWN8.out, trivial⟩, (HOU8.out.block _ bd6.lt (notin_U HU2.out bd6 (by decide) (by decide))).trans bd6, hB6.trans (HOU8.out.below hB6.size (fun b hm => (HU2.out b hm).1))⟩
      · simp at hb
        rcases hb with rfl | rfl | rfl
        · exact low_U HU.out lg
        · exact low_U HU.out lcb
        · exact notin_U HU.out bd (by decide) (by decide)
      · simp at hb
        rcases hb with rfl | rfl | rfl
        · exact low_U HU2.out lg
        · exact low_U HU2.out lcb
        · exact notin_U HU2.out bd6 (by decide) (by decide)
  case done =>
    rintro D' ys W hD' hys ⟨⟨v, bv, hrow, _⟩, _, hB⟩ hK
    obtain ⟨A, c, rfl, _, _⟩ := own_slice hrow
    obtain ⟨N, hN⟩ : ∃ N, N = (bodyB m (ys.map Subtype.val)).length := ⟨_, rfl⟩
    rw [← HM.out] at hys
    have hN1 : N ≤ 100000 := by
      rw [hN, bodyB_length]
      have h1 := congrArg List.length hys
      rw [List.length_map] at h1
      have h2 := items_length D.lines m
      omega
    have himg := HIM.out ys hys
    have HLE := Lib.hid (bodyB_length m ys)
    rw [← hN] at bv hrow
    have HN := Lib.hid hN
    generalize bodyB m (ys.map Subtype.val) = L at *
    have hcv : W.cell? ⟨w3.heap.size, 0, none⟩ = some (.slice A N c) := bv.cell
    have HSUM := Lib.hid (fun u (h : Bs u A N L) => sum_Sum A N c L u h (by unfold maxLen; omega))
    have hcrc := crc_lt L
    have HCALL := Lib.hid (fun u => HBY.out (crc L) 4 u (by omega) (by omega) (by omega))
    have HIMG := Lib.hid himg
    generalize crc L = s at *
    have hws : IntKind.u64.wrap (s : Int) = (s : Int) := by rw [IntKind.wrap_u64]; omega
    clear hN himg
    gi_wp2_with fail
    refine wpIn_wide.2 ?_
    have hcvd : W.drew.cell? ⟨w3.heap.size, 0, none⟩ = some (.slice A N c) := hcv
    have XL : Bs W.drew A N L := Bs.only0 (bs_own hrow) (Only.refl [] W).drew
    have HXL := Lib.hid XL
    have HROW := Lib.hid hrow
    clear XL
    go_region_held3 (fun w' => w'.cell? ⟨w3.heap.size, 0, none⟩ = some (.slice A N c)) (first | assumption | go_keep)
      (first
        | (go_at_call 35; refine (HSUM.out _ HXL.out).mono ?_; rintro e w' ⟨rfl, rfl⟩)
        | (go_at_call 50; refine (HCALL.out _).mono ?_; rintro e w4 ⟨v4, rfl, A4, c4, rfl, b4, o4⟩; rw [lay_length]; have o4' : Only [] W w4 := (Only.refl [] W).drew.trans0 o4; have hcv4 : w4.cell? ⟨w3.heap.size, 0, none⟩ = some (.slice A N c) := (cell_only o4' (lt_of_cell hcv) (by simp)).trans hcv; obtain ⟨A5, c5, w5, hr5, own5, U, ou5, hU⟩ := app_run (w0 := w) (c2 := c4) (n2 := 4) hB.size HROW.out o4' (by have := bs_own b4; rw [lay_length] at this; exact this) (by omega); have HOWN5 := Lib.hid own5; have HOU5 := Lib.hid ou5; have HU := Lib.hid hU; have hcv5 : w5.cell? ⟨w3.heap.size, 0, none⟩ = some (.slice A N c) := (cell_only ou5 (lt_of_cell hcv) (fun hm => by obtain ⟨_, cs', t', e, ht⟩ := hU _ hm; rw [show W.heap[w3.heap.size]? = _ from bv] at e; cases e; exact absurd ht (by decide))).trans hcv; clear b4 o4 o4' own5 ou5 hU)
        | ((try rw [if_pos (by rfl)]); refine wp_append_run (.tmp 28) (.tmp 32) 22 rfl _ _ rfl rfl _ _ hr5 ?_))
    have hlt' := (Array.getElem?_eq_some_iff.1 hK).1
    have hK5 : w5.heap[D']? = some (.deferred (some [])) := (HOU5.out.block D' hlt' (fun hm => by obtain ⟨_, cs', t', e, _⟩ := HU.out _ hm; rw [hK] at e; cases e)).trans hK
    have hB5 := hB.trans (HOU5.out.below hB.size (fun b hm => (HU.out b hm).1))
    have el : img.length = N + 4 := by rw [← HIMG.out, List.length_append, lay_length, ← HN.out]
    gi_wp2
    refine ⟨by simp, .inl ⟨_, _, rfl, run_takeDeferred hK5, ?_⟩⟩
    refine ⟨_, results_tmp2 rfl _ _ _, .slice A5 (N + 4) c5, rfl, A5, c5, by rw [el], ?_, Only.of_below (hB5.trans (belowK_b (w := w) (Nat.le_refl _) _ D' _ _ (by omega) hK5 rfl rfl))⟩
    rw [el, ← HIMG.out]
    exact ownsRow_putObj HOWN5.out _ hK5 rfl
  case stop =>
    rintro D c pre W _ _ h _
    exact h.elim
end Go.Proofs.Ytkbgoloedlpflaa
