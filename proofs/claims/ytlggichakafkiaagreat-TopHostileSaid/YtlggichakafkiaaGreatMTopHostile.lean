/- The statement TopHostile: the law returns true for every input, and its arguments read as before. No conditions. -/
import Derived.Test.YtlggichakafkiaaGreatRows
import Derived.Test.YtlggichakafkiaaGreatGTopHostile1
import Derived.Test.YtlggichakafkiaaGreatGTopHostile2
import Derived.Test.YtlggichakafkiaaGreatGTopHostile3
import Derived.Test.YtlggichakafkiaaGreatGTopHostile4
import Derived.Test.YtlggichakafkiaaGreatGTopHostile5
import Derived.Test.YtlggichakafkiaaGreatGTopHostile6
import Derived.Test.YtlggichakafkiaaGreatGTopHostile7
import Derived.Test.YtlggichakafkiaaGreatGTopHostile8
import Derived.Test.YtlggichakafkiaaGreatGTopHostile9
import Derived.Test.YtlggichakafkiaaGreatGTopHostile10
import Derived.Test.YtlggichakafkiaaGreatGTopHostile11
import Derived.Test.YtlggichakafkiaaGreatGTopHostile12
import Derived.Test.YtlggichakafkiaaGreatGTopHostile13
import Derived.Test.YtlggichakafkiaaGreatGTopHostile14
set_option linter.unusedSimpArgs false
set_option linter.unusedVariables false
namespace Go.Proofs.YtlggichakafkiaaGreat
open Go.ChangeShapes Go.WideShapes Go.ChangeAt Go.RowKit Go.Proofs.FuMem
open Go.ChangeMaps (open_string shut_string)
set_option linter.unusedVariables false
set_option maxRecDepth 100000 in
theorem topHostile_lifted (os : Os) (started : os.Started) (H : Type) (enc : TypeId × Value → H) :
  ReturnsInHanded {} Tryz.checked os 5 .any (Rows.topHostileSpec.pre6 enc Tryz.prog Tryz.f5 Rows.topHostileRow.domain false) (Rows.topHostileSpec.post enc Tryz.prog Tryz.f5 false true false false) := by
 refine returnsInHanded_of_change (C := Tryz.checked) FrameOwn.own started (by kernel_rfl) Tryz.func5
  (ChangeSpec.witness6 (enc := enc) (C := Tryz.checked) false ⟨#[], #[.int .i64 0, .bool false, .slice none 0 0, .slice none 0 0, .slice none 0 0], []⟩ 8 (by kernel_rfl) (by kernel_rfl) (by kernel_rfl) (by kernel_rfl)) ?_
 intro W base args ds gs before hval0 hW hcnd _
 have hval : ∀ (j : Nat) t v, Tryz.f5.params[j]? = some t → args[j]? = some v → Value.okWide Tryz.prog W .any base t v := hval0
 have hW' := hW
 obtain ⟨p, q, hA0, hV, rfl, hfz, hnd⟩ := hW
 have hA : DataW.TrodAll enc Tryz.prog W 0 (fun _ => true) true Tryz.f5.params.toList args.toList ds p := hA0
 rw [Tryz.params5] at hA hval
 obtain ⟨v0, vs0, d0, ds0, p0, q0, hargs, rfl, rfl, h0, r0⟩ := trodAll_cons hA
 obtain ⟨v1, vs1, d1, ds1, p1, q1, rfl, rfl, rfl, h1, r1⟩ := trodAll_cons r0
 obtain ⟨v2, vs2, d2, ds2, p2, q2, rfl, rfl, rfl, h2, r2⟩ := trodAll_cons r1
 obtain ⟨v3, vs3, d3, ds3, p3, q3, rfl, rfl, rfl, h3, r3⟩ := trodAll_cons r2
 obtain ⟨v4, vs4, d4, ds4, p4, q4, rfl, rfl, rfl, h4, r4⟩ := trodAll_cons r3
 obtain ⟨rfl, rfl, rfl⟩ := trodAll_nil r4
 obtain rfl : args = #[v0, v1, v2, v3, v4] := by cases args; simp_all
 obtain ⟨rfl, rfl⟩ := trodVars_none hV
 obtain ⟨a0, rfl, rfl, rfl, w0⟩ := open_int Tryz.underlying3 (hval 0 3 v0 rfl rfl) h0
 obtain ⟨a1, rfl, rfl, rfl⟩ := open_bool Tryz.underlying4 (hval 1 4 v1 rfl rfl) h1
 obtain ⟨a2, len2, cap2, rfl⟩ := okWide_slice Tryz.underlying23 (hval 2 23 v2 rfl rfl)
 have k2 := h2
 have lt2 : ∀ x ∈ p2, x.block < W.heap.size := by obtain ⟨m, hm⟩ := k2; exact DataW.trod_lt m _ _ _ hm
 obtain ⟨z2, w2⟩ : ∃ zs, IsRow .i64 W a2 len2 cap2 zs := IsRow.of_trod Tryz.underlying23 Tryz.underlying3 (by kernel_rfl) h2
 obtain ⟨l2, b2, m2⟩ := IsRow.ints w2
 obtain ⟨a3, len3, cap3, rfl⟩ := okWide_slice Tryz.underlying80 (hval 3 80 v3 rfl rfl)
 have k3 := h3
 have lt3 : ∀ x ∈ p3, x.block < W.heap.size := by obtain ⟨m, hm⟩ := k3; exact DataW.trod_lt m _ _ _ hm
 obtain ⟨l3, b3, m3⟩ := open_rows8 h3
 obtain ⟨a4, len4, cap4, rfl⟩ := okWide_slice Tryz.underlying23 (hval 4 23 v4 rfl rfl)
 have k4 := h4
 have lt4 : ∀ x ∈ p4, x.block < W.heap.size := by obtain ⟨m, hm⟩ := k4; exact DataW.trod_lt m _ _ _ hm
 obtain ⟨z4, w4⟩ : ∃ zs, IsRow .i64 W a4 len4 cap4 zs := IsRow.of_trod Tryz.underlying23 Tryz.underlying3 (by kernel_rfl) h4
 obtain ⟨l4, b4, m4⟩ := IsRow.ints w4
 clear hA0 hval0
 refine (walk_TopHostile a0 a1 a2 len2 cap2 l2 a3 len3 cap3 l3 a4 len4 cap4 l4 W (bounds_i64 w0) b2 m2 b3 m3 b4 m4).mono fun e W' ⟨he, onl⟩ => ?_
 subst he
 have bel := onl.below0
 exact ⟨_, rfl, _, _, _, [], _, [], hW', trodAll_mk1 (shut_bool Tryz.underlying4 _), (trodAll_cons_mk (shut_int Tryz.underlying3 w0) (trodAll_cons_mk (shut_bool Tryz.underlying4 a1) (trodAll_cons_mk (Below.trod FrameOwn.laidOut (by kernel_rfl) (of_decide_eq_true (by kernel_rfl)) k2 bel lt2) (trodAll_cons_mk (Below.trod FrameOwn.laidOut (by kernel_rfl) (of_decide_eq_true (by kernel_rfl)) k3 bel lt3) (trodAll_cons_mk (Below.trod FrameOwn.laidOut (by kernel_rfl) (of_decide_eq_true (by kernel_rfl)) k4 bel lt4) trodAll_mk0))))), rfl, bel.frame _, fun h => by cases h⟩
set_option maxRecDepth 100000 in
theorem topHostile_named : Program.funcNamed Tryz.prog Rows.topHostileRow.func = some 5 := by kernel_rfl
set_option maxRecDepth 100000 in
theorem topHostile_place : (Rows.topHostileRow.inPlace == Program.inPlace Tryz.prog 5) = true := by kernel_rfl
set_option maxRecDepth 100000 in
theorem topHostile_unf : (Rows.topHostileRow.unfollowed == Program.unfollowed Tryz.prog 5) = true := by kernel_rfl
set_option maxRecDepth 100000 in
theorem topHostile_rec : (Rows.topHostileRow.recurses == Program.recurses Tryz.prog 5) = true := by kernel_rfl
set_option maxRecDepth 100000 in
theorem topHostile_vars : (Rows.topHostileRow.named == Program.varsNamed Tryz.prog 5) = true := by kernel_rfl
set_option maxRecDepth 100000 in
theorem topHostile_keys : (Rows.topHostileRow.plainKeys == Program.plainKeys Tryz.prog) = true := by kernel_rfl
set_option maxRecDepth 100000 in
theorem topHostile_lifts : (Rows.topHostileRow.lifted == Program.liftsFinal Tryz.prog) = true := by kernel_rfl
set_option maxRecDepth 100000 in
theorem topHostile_facts : joinedFacts Tryz.prog 5 Tryz.f5 Rows.topHostileSpec Rows.topHostileRow = true := joined_of facts_laid facts_maps topHostile_place topHostile_unf topHostile_rec topHostile_vars topHostile_keys facts_heard facts_may topHostile_lifts (by kernel_rfl) (by kernel_rfl) (by kernel_rfl) (by kernel_rfl) (by kernel_rfl) (by kernel_rfl)
theorem topHostile_holds : Rows.TopHostileSaid :=
 OpenClaim.holds_of_wide 5 Tryz.f5 rfl rfl rfl rfl rfl rfl rfl ⟨rfl, rfl, rfl, rfl, rfl⟩ rfl rfl rfl rfl rfl topHostile_named Tryz.func5 topHostile_facts
  (of_decide_eq_true (by kernel_rfl)) (by unfold Func.isWrapper; first | (rw [if_pos (by decide +kernel)]; kernel_rfl) | (rw [if_neg (by decide +kernel)]; exact ⟨rfl, rfl⟩))
  (fun os started H enc _ => topHostile_lifted os started H enc)
#print axioms topHostile_holds
end Go.Proofs.YtlggichakafkiaaGreat
