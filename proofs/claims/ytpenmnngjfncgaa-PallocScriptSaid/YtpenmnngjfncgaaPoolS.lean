/- The reference of chapter 7: plain, and Class, Of. -/
import Derived.Test.YtpenmnngjfncgaaPoolK
import Derived.Test.YtpenmnngjfncgaaPoolR
namespace Go.Proofs.FuPool
open Go.RowKit Go.Proofs.FuMem Go.Proofs.FuClass
theorem of_mem {P : Pool} (hP : Ok P) (hl : P.length ≤ 32) {x : Int × Int} (hx : x ∈ takenOf P) : ofA P x.1 = (x.2, true) := by
  obtain ⟨i, s, k, hs, h1, h2, rfl⟩ := mem_takenOf.1 hx
  unfold ofA
  simp only
  rw [blockAt_of hP hl hs h2]
  simp only
  rw [hs]
  rfl
theorem of_none {P : Pool} (hl : P.length ≤ 32) {line : Int} (h : ∀ x ∈ takenOf P, x.1 ≠ line) : ofA P line = (0, false) := by
  unfold ofA
  cases hb : blockAt P line with
  | none => rfl
  | some y =>
    exfalso
    obtain ⟨i, k⟩ := y
    obtain ⟨s, hs, h1, h2, h3, _⟩ := blockAt_some hl hb
    exact h _ (mem_takenOf.2 ⟨i, s, k, hs, h3, h1, rfl⟩) h2.symm
theorem cls_mem {P : Pool} (hl : P.length ≤ 32) {i : Nat} {s : Slab} (hs : P[i]? = some s) {x : Int × Int} (hx : x ∈ takenOf P) (he : slabOf x.1 = i) : x.2 = s.cls := by
  obtain ⟨j, t, ht, h1, h2, _⟩ := taken_place hl hx
  have : j = i := by omega
  subst this
  rw [hs] at ht
  cases ht
  exact h2.symm
theorem cls_none {P : Pool} (hP : Ok P) (hl : P.length ≤ 32) {i : Nat} {s : Slab} (hs : P[i]? = some s) (h : ∀ x ∈ takenOf P, slabOf x.1 ≠ i) : s.cls = -1 := by
  have hi : i < P.length := (List.getElem?_eq_some_iff.1 hs).1
  refine whole_slab (hP s (List.mem_of_getElem? hs)) fun k hk => ?_
  cases ha : s.at k with
  | false => rfl
  | true =>
    exfalso
    exact h _ (mem_takenOf.2 ⟨i, s, k, hs, hk, ha, rfl⟩) (slabOf_lineAt (by omega) (many_cls hk) hk)
/-- a list with one more, at its place -/
def upTo (l : List (Int × Int)) (line : Int) : Nat := (l.takeWhile fun y => decide (y.1 ≤ line)).length
def ins (l : List (Int × Int)) (x : Int × Int) : List (Int × Int) := l.take (upTo l x.1) ++ [x] ++ l.drop (upTo l x.1)
theorem upTo_le (l : List (Int × Int)) (line : Int) : upTo l line ≤ l.length := (List.takeWhile_prefix _).length_le
theorem upTo_lt {l : List (Int × Int)} {line : Int} {j : Nat} {y : Int × Int} (hj : j < upTo l line) (hy : l[j]? = some y) : y.1 ≤ line := by
  induction l generalizing j with
  | nil => simp at hy
  | cons a l ih =>
    unfold upTo at hj ih
    by_cases h : a.1 ≤ line
    · rw [List.takeWhile_cons_of_pos (by simpa using h), List.length_cons] at hj
      cases j with
      | zero =>
        simp at hy
        subst hy
        exact h
      | succ j =>
        exact ih (j := j) (by omega) (by simpa using hy)
    · rw [List.takeWhile_cons_of_neg (by simpa using h)] at hj
      simp at hj
theorem upTo_at {l : List (Int × Int)} {line : Int} {y : Int × Int} (hy : l[upTo l line]? = some y) : line < y.1 := by
  induction l with
  | nil => simp at hy
  | cons a l ih =>
    unfold upTo at hy ih
    by_cases h : a.1 ≤ line
    · rw [List.takeWhile_cons_of_pos (by simpa using h)] at hy
      simp only [List.length_cons, List.getElem?_cons_succ] at hy
      exact ih hy
    · rw [List.takeWhile_cons_of_neg (by simpa using h)] at hy
      simp at hy
      subst hy
      omega
theorem mem_ins (l : List (Int × Int)) (x y : Int × Int) : y ∈ ins l x ↔ y = x ∨ y ∈ l := by
  unfold ins
  rw [List.append_assoc, List.mem_append, List.singleton_append, List.mem_cons]
  have : y ∈ l ↔ y ∈ l.take (upTo l x.1) ∨ y ∈ l.drop (upTo l x.1) := by
    rw [← List.mem_append, List.take_append_drop]
  rw [this]
  constructor
  · rintro (h | h | h)
    · exact .inr (.inl h)
    · exact .inl h
    · exact .inr (.inr h)
  · rintro (h | h | h)
    · exact .inr (.inl h)
    · exact .inl h
    · exact .inr (.inr h)
theorem ins_lt {l : List (Int × Int)} (hl : l.Pairwise (fun a b => a.1 < b.1)) {x : Int × Int} (hx : ∀ y ∈ l, y.1 ≠ x.1) : (ins l x).Pairwise (fun a b => a.1 < b.1) := by
  unfold ins
  rw [List.append_assoc, List.pairwise_append]
  refine ⟨hl.sublist (List.take_sublist _ _), ?_, ?_⟩
  · rw [List.singleton_append, List.pairwise_cons]
    refine ⟨fun y hy => ?_, hl.sublist (List.drop_sublist _ _)⟩
    obtain ⟨j, hj, e⟩ := List.getElem_of_mem hy
    rw [List.getElem_drop] at e
    rw [List.length_drop] at hj
    have hp : upTo l x.1 < l.length := by omega
    have h1 := upTo_at (List.getElem?_eq_getElem hp)
    cases j with
    | zero => simp only [Nat.add_zero] at e; rw [← e]; exact h1
    | succ j =>
      rw [List.pairwise_iff_getElem] at hl
      have := hl (upTo l x.1) (upTo l x.1 + (j + 1)) hp (by omega) (by omega)
      rw [e] at this
      omega
  · intro a ha b hb
    obtain ⟨i, hi, e⟩ := List.getElem_of_mem ha
    rw [List.getElem_take] at e
    rw [List.length_take] at hi
    have h1 := upTo_lt (l := l) (line := x.1) (j := i) (y := a) (by omega) (by rw [List.getElem?_eq_getElem (by omega), e])
    have h2 := hx a (by rw [← e]; exact List.getElem_mem _)
    rw [List.singleton_append, List.mem_cons] at hb
    rcases hb with rfl | hb
    · omega
    · obtain ⟨j, hj, e2⟩ := List.getElem_of_mem hb
      rw [List.getElem_drop] at e2
      rw [List.length_drop] at hj
      rw [List.pairwise_iff_getElem] at hl
      have := hl i (upTo l x.1 + j) (by omega) (by omega) (by omega)
      rw [e, e2] at this
      exact this
/-- taking a block puts it into the list -/
theorem taken_take {P : Pool} (hP : Ok P) (hl : P.length ≤ 32) {i k : Nat} {s : Slab} {c : Int} (hs : P[i]? = some s) (hc : 0 ≤ c ∧ c ≤ 3) (hk : k < many c) (hf : s.at k = false) (h1 : s.cls = -1 ∨ s.cls = c) :
    (∀ y ∈ takenOf P, y.1 ≠ lineAt i k c) ∧ takenOf (P.modify i fun s => s.take c k) = ins (takenOf P) (lineAt i k c, c) := by
  have ho := hP s (List.mem_of_getElem? hs)
  have hm := many_span hc
  have hi : i < P.length := (List.getElem?_eq_some_iff.1 hs).1
  have hne : ∀ y ∈ takenOf P, y.1 ≠ lineAt i k c := by
    intro y hy e
    obtain ⟨j, t, m, ht, g1, g2, rfl⟩ := mem_takenOf.1 hy
    simp only at e
    have hj : j < P.length := (List.getElem?_eq_some_iff.1 ht).1
    have e1 := slabOf_lineAt (i := j) (by omega) (many_cls g1) g1
    rw [e, slabOf_lineAt (by omega) hc hk] at e1
    have : j = i := by omega
    subst this
    rw [hs] at ht
    cases ht
    rcases h1 with h1 | h1
    · have := many_cls g1
      omega
    · rw [h1] at e
      have := lineAt_inj hc e
      subst this
      rw [g2] at hf
      cases hf
  refine ⟨hne, sorted_ext (fun x => x.1) (taken_lt _) (ins_lt (taken_lt P) hne) fun y => ?_⟩
  rw [mem_ins]
  have hat : ∀ m, (s.take c k).at m = (decide (m = k) || s.at m) := fun m => take_at ho.len (by omega)
  constructor
  · intro hy
    obtain ⟨j, t, m, ht, g1, g2, rfl⟩ := mem_takenOf.1 hy
    rw [List.getElem?_modify] at ht
    by_cases hij : i = j
    · subst hij
      rw [hs] at ht
      simp at ht
      subst ht
      rw [hat m] at g2
      by_cases hmk : m = k
      · subst hmk
        exact .inl rfl
      · right
        have g3 : s.at m = true := by simpa [hmk] using g2
        have hcl : s.cls = c := by
          rcases h1 with h1 | h1
          · have := ho.busy (by have := n_pos g3; omega)
            omega
          · exact h1
        refine mem_takenOf.2 ⟨i, s, m, hs, by rw [hcl]; exact g1, g3, ?_⟩
        show (lineAt i m c, c) = _
        rw [hcl]
    · simp [hij] at ht
      exact .inr (mem_takenOf.2 ⟨j, t, m, ht, g1, g2, rfl⟩)
  · rintro (rfl | hy)
    · exact mem_takenOf.2 ⟨i, s.take c k, k, by rw [List.getElem?_modify, hs]; simp, hk, by rw [hat k]; simp, rfl⟩
    · obtain ⟨j, t, m, ht, g1, g2, rfl⟩ := mem_takenOf.1 hy
      by_cases hij : i = j
      · subst hij
        rw [hs] at ht
        cases ht
        have hcl : s.cls = c := by
          rcases h1 with h1 | h1
          · have := many_cls g1
            omega
          · exact h1
        refine mem_takenOf.2 ⟨i, s.take c k, m, by rw [List.getElem?_modify, hs]; simp, ?_, by rw [hat m, g2]; simp, ?_⟩
        · show m < many c
          rw [← hcl]
          exact g1
        · show _ = (lineAt i m c, c)
          rw [hcl]
      · exact mem_takenOf.2 ⟨j, t, m, by rw [List.getElem?_modify, ht]; simp [hij], g1, g2, rfl⟩
theorem taken_give {P : Pool} (hP : Ok P) (hl : P.length ≤ 32) {line : Int} {i k : Nat} (hb : blockAt P line = some (i, k)) : takenOf (giveP P line) = (takenOf P).filter fun x => decide (x.1 ≠ line) := by
  refine sorted_ext (fun x => x.1) (taken_lt _) ((taken_lt P).filter _) fun y => ?_
  rw [mem_give hP hl hb, List.mem_filter, decide_eq_true_eq]
/-- a reference pool in memory: how many slabs; the taken blocks, in a list whose block is none of X -/
def IsRef (tR : TypeId) (w : World) (X : List Nat) (rg : Nat) (N : Nat) (l : List (Int × Int)) : Prop :=
  rg ∉ X ∧ ∃ A n c, Blk w rg tR #[.int .i64 N, .slice A n c] ∧ Ts w A n l ∧ ∀ b off q, A = some ⟨b, off, q⟩ → b ∉ X ∧ b ≠ rg
theorem IsRef.only {tR : TypeId} {w w' : World} {X S : List Nat} {rg N : Nat} {l : List (Int × Int)} (h : IsRef tR w X rg N l) (ho : Only S w w') (hS : ∀ b ∈ S, b ∈ X) : IsRef tR w' X rg N l := by
  obtain ⟨h0, A, n, c, h1, h2, h3⟩ := h
  exact ⟨h0, A, n, c, h1.only ho (fun hb => h0 (hS _ hb)), h2.only ho (fun b off q e hb => (h3 b off q e).1 (hS _ hb)), h3⟩
theorem IsRef.only0 {tR : TypeId} {w w' : World} {X : List Nat} {rg N : Nat} {l : List (Int × Int)} (h : IsRef tR w X rg N l) (ho : Only [] w w') : IsRef tR w' X rg N l := h.only ho (by simp)
end Go.Proofs.FuPool
namespace Go.Proofs.Ytpenmnngjfncgaa
open Go.RowKit Go.Proofs.FuMem Go.Proofs.FuClass Go.Proofs.FuPool
set_option maxRecDepth 100000
abbrev RefAt (w : World) (X : List Nat) (rg N : Nat) (l : List (Int × Int)) : Prop := IsRef 77 w X rg N l
theorem ref7_Class (X : List Nat) (rg : Nat) (P : Pool) (i : Nat) (s : Slab) (w : World) (h : RefAt w X rg P.length (takenOf P)) (hP : Ok P) (h32 : P.length ≤ 32) (hs : P[i]? = some s) :
    Calls Try.prog 49 #[.pointer (some ⟨rg, 0, none⟩), .int .i64 i] w fun e w' => e = .returned (.int .i64 s.cls) ∧ w = w' := by
  have HYE := Lib.hid (fun (x : Int × Int) (hx : x ∈ takenOf P) (he : slabOf x.1 = i) => cls_mem h32 hs hx he)
  have HNO := Lib.hid (fun (h : ∀ x ∈ takenOf P, slabOf x.1 ≠ i) => cls_none hP h32 hs h)
  have hln : (takenOf P).length ≤ 256 := by have := blocksTo_length P P.length; unfold takenOf; omega
  obtain ⟨_, A, n, c, hb, ht, _⟩ := h
  have hl : (takenOf P).length = n := ht.1
  generalize takenOf P = l at *
  have x1 := hb.cell 1
  have x1' : w.cell? ⟨rg, 1, none⟩ = some (.slice A n c) := x1
  have HT := Lib.hid ht.2
  have HL := Lib.hid hl
  have hn256 : n ≤ 256 := by omega
  generalize s.cls = cl at *
  have HSO := Lib.hid (fun k w => ref4_SlabOf k w)
  have hsb := Lib.hid slabOf_bd
  clear hb ht x1 hs hl hP
  go_enter Try.func49, Try.ntmps49
  go_wp2
  go_loop [5] (fun kv => ∃ j : Nat, j ≤ n ∧ kv = .int .i64 j ∧ ∀ m x, m < j → l[m]? = some x → slabOf x.1 ≠ i) (fun kv => n - (intOf kv).toNat)
  case atStart => exact ⟨0, by omega, rfl, fun m x hm => by omega⟩
  case round =>
    obtain ⟨j, hj, rfl, hall⟩ := hrel
    have HALL := Lib.hid hall
    clear hall
    by_cases hlt : j < n
    · have y1 : (0 : Int) ≤ (j : Int) := by omega
      have y2 : (j : Int) < (n : Int) := by omega
      have y3 : decide ((j : Int) < (n : Int)) = true := by rw [decide_eq_true_eq]; omega
      obtain ⟨x, hx⟩ : ∃ x, l[j]? = some x := ⟨_, List.getElem?_eq_getElem (by have := HL.out; omega)⟩
      rcases HT.out with h0 | ⟨b, off, hAe, hcell⟩
      · omega
      obtain ⟨c0, c1⟩ := hcell j x hx
      subst hAe
      have HSX := Lib.hid (HSO.out x.1)
      by_cases he : slabOf x.1 = i
      · have hc := HYE.out x (List.mem_of_getElem? hx) he
        rw [he] at HSX
        rw [hc] at c1
        have q1 : ((i : Int) == (i : Int)) = true := by simp
        clear hcell hx he hc
        generalize x.1 = ln at *
        go_wp2_with fail
        refine (HSX.out _).mono ?_
        rintro e w' ⟨rfl, rfl⟩
        go_wp2
        go_ret
        exact ⟨rfl, rfl⟩
      · have q1 : (slabOf x.1 == (i : Int)) = false := by rw [beq_eq_false_iff_ne]; exact he
        have HNX := Lib.hid (show ∀ m y, m < j + 1 → l[m]? = some y → slabOf y.1 ≠ i from fun m y hm hy => by
          by_cases e : m = j
          · subst e
            rw [hx] at hy
            cases hy
            exact he
          · exact HALL.out m y (by omega) hy)
        clear hcell hx he
        generalize slabOf x.1 = so at *
        generalize x.1 = ln at *
        go_wp2_with fail
        refine (HSX.out _).mono ?_
        rintro e w' ⟨rfl, rfl⟩
        go_wp2
        go_round
        · exact ⟨j + 1, by omega, by simp, HNX.out⟩
        · simp [intOf]
          omega
    · obtain rfl : j = n := by omega
      have y3 : decide ((j : Int) < (j : Int)) = false := by simp
      have hc := HNO.out (fun x hx => by
        obtain ⟨m, hm, e⟩ := List.getElem_of_mem hx
        exact HALL.out m x (by have := HL.out; omega) (by rw [List.getElem?_eq_getElem hm, e]))
      have HC := Lib.hid hc
      clear hc
      go_wp2
      go_ret
      exact ⟨by rw [HC.out]; rfl, rfl⟩
theorem ref7_Of (X : List Nat) (rg : Nat) (P : Pool) (line : Int) (w : World) (h : RefAt w X rg P.length (takenOf P)) (hP : Ok P) (h32 : P.length ≤ 32) :
    Calls Try.prog 32 #[.pointer (some ⟨rg, 0, none⟩), .int .i64 line] w fun e w' => e = .returned (.tuple #[.int .i64 (ofA P line).1, .bool (ofA P line).2]) ∧ w = w' := by
  have HYE := Lib.hid (fun (x : Int × Int) (hx : x ∈ takenOf P) => of_mem hP h32 hx)
  have HNO := Lib.hid (fun (h : ∀ x ∈ takenOf P, x.1 ≠ line) => of_none h32 h)
  have hln : (takenOf P).length ≤ 256 := by have := blocksTo_length P P.length; unfold takenOf; omega
  obtain ⟨_, A, n, c, hb, ht, _⟩ := h
  have hl : (takenOf P).length = n := ht.1
  generalize takenOf P = l at *
  have x1 := hb.cell 1
  have x1' : w.cell? ⟨rg, 1, none⟩ = some (.slice A n c) := x1
  have HT := Lib.hid ht.2
  have HL := Lib.hid hl
  have hn256 : n ≤ 256 := by omega
  clear hb ht x1 hl hP
  go_enter Try.func32, Try.ntmps32
  go_wp2
  go_loop [6] (fun kv => ∃ j : Nat, j ≤ n ∧ kv = .int .i64 j ∧ ∀ m x, m < j → l[m]? = some x → x.1 ≠ line) (fun kv => n - (intOf kv).toNat)
  case atStart => exact ⟨0, by omega, rfl, fun m x hm => by omega⟩
  case round =>
    obtain ⟨j, hj, rfl, hall⟩ := hrel
    have HALL := Lib.hid hall
    clear hall
    by_cases hlt : j < n
    · have y1 : (0 : Int) ≤ (j : Int) := by omega
      have y2 : (j : Int) < (n : Int) := by omega
      have y3 : decide ((j : Int) < (n : Int)) = true := by rw [decide_eq_true_eq]; omega
      obtain ⟨x, hx⟩ : ∃ x, l[j]? = some x := ⟨_, List.getElem?_eq_getElem (by have := HL.out; omega)⟩
      rcases HT.out with h0 | ⟨b, off, hAe, hcell⟩
      · omega
      obtain ⟨c0, c1⟩ := hcell j x hx
      subst hAe
      by_cases he : x.1 = line
      · have hc := HYE.out x (List.mem_of_getElem? hx)
        rw [he] at hc c0
        have HC := Lib.hid hc
        have q1 : (line == line) = true := by simp
        clear hcell hx he hc
        generalize x.2 = cl at *
        go_wp2
        go_ret2
        exact ⟨by rw [HC.out]; rfl, rfl⟩
      · have q1 : (x.1 == line) = false := by rw [beq_eq_false_iff_ne]; exact he
        have HNX := Lib.hid (show ∀ m y, m < j + 1 → l[m]? = some y → y.1 ≠ line from fun m y hm hy => by
          by_cases e : m = j
          · subst e
            rw [hx] at hy
            cases hy
            exact he
          · exact HALL.out m y (by omega) hy)
        clear hcell hx he
        generalize x.1 = ln at *
        go_wp2
        go_round
        · exact ⟨j + 1, by omega, by simp, HNX.out⟩
        · simp [intOf]
          omega
    · obtain rfl : j = n := by omega
      have y3 : decide ((j : Int) < (j : Int)) = false := by simp
      have hc := HNO.out (fun x hx => by
        obtain ⟨m, hm, e⟩ := List.getElem_of_mem hx
        exact HALL.out m x (by have := HL.out; omega) (by rw [List.getElem?_eq_getElem hm, e]))
      have HC := Lib.hid hc
      clear hc
      go_wp2
      go_ret2
      exact ⟨by rw [HC.out]; rfl, rfl⟩
end Go.Proofs.Ytpenmnngjfncgaa
