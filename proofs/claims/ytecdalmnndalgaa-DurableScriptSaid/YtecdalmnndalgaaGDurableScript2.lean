/- The reference's clock: how it lies in memory, and what it does beside the program's. Over any program. -/
import Derived.Deep.RegionLaw
import Derived.BigRegion
import Derived.Laws.IdiomCopy
import Derived.Deep.Slices
import Derived.Deep.Fields
import Derived.Test.YtecdalmnndalgaaProg
import Derived.WalkSpells
import Derived.WalkLawsBesides
import Derived.Laws.LoneSync
import Derived.Test.YtecdalmnndalgaaGDurableScript1
namespace Go.Proofs.FuClk
open Go.RowKit Go.Proofs.FuMem
structure Ref where
  now : Int
  durable : Int
  notes : List (List Int)
  closing : Bool
  left : List Int
  done : Int
def newRef (n : Nat) (d : Int) : Ref := ⟨d + 1, d, List.replicate n [], false, [], 0⟩
/-- a slice of ints that lies apart from some blocks -/
def Apt (w : World) (X : List Nat) (v : Value) (l : List Int) : Prop := ∃ A c, v = .slice A l.length c ∧ Is w A l.length l ∧ (∀ b off q, A = some ⟨b, off, q⟩ → b ∉ X ∧ b < w.heap.size) ∧ l.length ≤ c
section
variable {w w' : World} {X Y T : List Nat} {v : Value} {l : List Int}
theorem Apt.only (h : Apt w X v l) (ho : Only T w w') (hT : ∀ b ∈ T, b ∈ X) : Apt w' X v l := by
  obtain ⟨A, c, e, hi, hx, hc⟩ := h
  exact ⟨A, c, e, hi.only ho fun b off q e hb => (hx b off q e).1 (hT b hb), fun b off q e => ⟨(hx b off q e).1, Nat.lt_of_lt_of_le (hx b off q e).2 ho.size⟩, hc⟩
theorem Apt.ext (h : Apt w X v l) (hY : ∀ b ∈ Y, b ∈ X ∨ w.heap.size ≤ b) : Apt w Y v l := by
  obtain ⟨A, c, e, hi, hx, hc⟩ := h
  refine ⟨A, c, e, hi, fun b off q e => ⟨fun hb => ?_, (hx b off q e).2⟩, hc⟩
  have h1 := hx b off q e
  rcases hY b hb with h2 | h2
  · exact h1.1 h2
  · omega
theorem Apt.nil (w : World) (X : List Nat) : Apt w X (.slice none 0 0) [] := ⟨none, 0, rfl, Is.nil _ _, fun _ _ _ e => (by cases e), Nat.le_refl _⟩
theorem Apt.own {B c n : Nat} {e : TypeId} {A : Option Addr} (h : w.ownsRow B e 1 (.slice A n c) n (l.map (.int .i64))) (hX : ∀ b ∈ X, b < B) : Apt w X (.slice A n c) l := by
  have hi := is_own h
  have hl := hi.len
  subst hl
  obtain ⟨A', c', hv, hc, hb⟩ := own_slice h
  cases hv
  refine ⟨A, c, rfl, hi, fun b off q e => ?_, hc⟩
  have := hb b off q e
  exact ⟨fun hm => by have := hX b hm; omega, this.2⟩
end
def refCells (nb n : Nat) (lv : Value) (R : Ref) : List Value := [.int .u64 R.now, .int .u64 R.durable, .slice (some ⟨nb, 0, none⟩) n n, .bool R.closing, lv, .int .i64 R.done]
structure RefIn (tR tS : TypeId) (w : World) (F : List Nat) (base rg nb : Nat) (vs : List Value) (lv : Value) (R : Ref) : Prop where
  head : Blk w rg tR (refCells nb R.notes.length lv R).toArray
  row : Blk w nb tS vs.toArray
  len : vs.length = R.notes.length
  each : ∀ (t : Nat) (l : List Int), R.notes[t]? = some l → ∃ v, vs[t]? = some v ∧ Apt w (rg :: nb :: F) v l
  left : Apt w (rg :: nb :: F) lv R.left
  ne : rg ≠ nb
  rgF : rg ∉ F
  nbF : nb ∉ F
  rgB : base ≤ rg
  nbB : base ≤ nb
  few : ∀ b ∈ F, b < w.heap.size
def IsRC (tR tS : TypeId) (w : World) (F : List Nat) (base rg : Nat) (R : Ref) : Prop := ∃ nb vs lv, RefIn tR tS w F base rg nb vs lv R
/-- nothing turns but blocks of the call's own kind: none of F, none below the base -/
def OnlyX (F : List Nat) (base : Nat) (w w' : World) : Prop := ∃ T, Only T w w' ∧ ∀ b ∈ T, b ∉ F ∧ base ≤ b
section
variable {tR tS : TypeId} {w w' w'' : World} {F F' T : List Nat} {base rg nb : Nat} {vs : List Value} {lv : Value} {R : Ref}
theorem OnlyX.of0 (h : Only [] w w') : OnlyX F base w w' := ⟨[], h, by simp⟩
theorem OnlyX.refl (F : List Nat) (base : Nat) (w : World) : OnlyX F base w w := .of0 (Only.refl _ _)
theorem OnlyX.size (h : OnlyX F base w w') : w.heap.size ≤ w'.heap.size := h.elim fun _ h => h.1.size
theorem OnlyX.trans (h : OnlyX F base w w') (k : OnlyX F base w' w'') : OnlyX F base w w'' := by
  obtain ⟨T, h1, h2⟩ := h
  obtain ⟨U, k1, k2⟩ := k
  refine ⟨T ++ U, (h1.mono fun b hb => by simp [hb]).trans k1 fun b hb => .inl (by simp [hb]), fun b hb => ?_⟩
  rcases List.mem_append.1 hb with hb | hb
  · exact h2 b hb
  · exact k2 b hb
theorem OnlyX.blk {g : Nat} {t : TypeId} {cs : Array Value} (h : OnlyX F base w w') (hb : Blk w g t cs) (hg : g ∈ F) : Blk w' g t cs := by
  obtain ⟨T, h1, h2⟩ := h
  exact hb.only h1 fun hm => (h2 g hm).1 hg
theorem OnlyX.low (h : OnlyX F base w w') {w0 : World} (o : Only [] w0 w) (hb : w0.heap.size ≤ base) : Only [] w0 w' := by
  obtain ⟨T, h1, h2⟩ := h
  exact o.trans h1 fun b hm => .inr (by have := (h2 b hm).2; omega)
theorem RefIn.only (h : RefIn tR tS w F base rg nb vs lv R) (ho : Only T w w') (hT : ∀ b ∈ T, b ∈ F) : RefIn tR tS w' F base rg nb vs lv R :=
  { head := h.head.only ho fun hm => h.rgF (hT _ hm)
    row := h.row.only ho fun hm => h.nbF (hT _ hm)
    len := h.len
    each := fun t l ht => by
      obtain ⟨v, hv, ha⟩ := h.each t l ht
      exact ⟨v, hv, ha.only ho fun b hb => by simp [hT b hb]⟩
    left := h.left.only ho fun b hb => by simp [hT b hb]
    ne := h.ne, rgF := h.rgF, nbF := h.nbF, rgB := h.rgB, nbB := h.nbB
    few := fun b hb => Nat.lt_of_lt_of_le (h.few b hb) ho.size }
theorem RefIn.only0 (h : RefIn tR tS w F base rg nb vs lv R) (ho : Only [] w w') : RefIn tR tS w' F base rg nb vs lv R := h.only ho (by simp)
theorem RefIn.ext (h : RefIn tR tS w F base rg nb vs lv R) (hF : ∀ b ∈ F', b ∈ F ∨ w.heap.size ≤ b) (ho : Only [] w w') (few : ∀ b ∈ F', b < w'.heap.size) : RefIn tR tS w' F' base rg nb vs lv R :=
  { head := h.head.only ho (by simp)
    row := h.row.only ho (by simp)
    len := h.len
    each := fun t l ht => by
      obtain ⟨v, hv, ha⟩ := h.each t l ht
      refine ⟨v, hv, (ha.ext (Y := rg :: nb :: F') fun b hb => ?_).only ho (by simp)⟩
      rcases List.mem_cons.1 hb with rfl | hb
      · simp
      rcases List.mem_cons.1 hb with rfl | hb
      · simp
      rcases hF b hb with h2 | h2
      · simp [h2]
      · exact .inr h2
    left := by
      refine (h.left.ext (Y := rg :: nb :: F') fun b hb => ?_).only ho (by simp)
      rcases List.mem_cons.1 hb with rfl | hb
      · simp
      rcases List.mem_cons.1 hb with rfl | hb
      · simp
      rcases hF b hb with h2 | h2
      · simp [h2]
      · exact .inr h2
    ne := h.ne
    rgF := fun hm => by
      rcases hF _ hm with h2 | h2
      · exact h.rgF h2
      · have := h.head.lt; omega
    nbF := fun hm => by
      rcases hF _ hm with h2 | h2
      · exact h.nbF h2
      · have := h.row.lt; omega
    rgB := h.rgB, nbB := h.nbB, few := few }
theorem IsRC.only (h : IsRC tR tS w F base rg R) (ho : Only T w w') (hT : ∀ b ∈ T, b ∈ F) : IsRC tR tS w' F base rg R := by
  obtain ⟨nb, vs, lv, h⟩ := h
  exact ⟨nb, vs, lv, h.only ho hT⟩
theorem IsRC.only0 (h : IsRC tR tS w F base rg R) (ho : Only [] w w') : IsRC tR tS w' F base rg R := h.only ho (by simp)
theorem IsRC.ext (h : IsRC tR tS w F base rg R) (hF : ∀ b ∈ F', b ∈ F ∨ w.heap.size ≤ b) (ho : Only [] w w') (few : ∀ b ∈ F', b < w'.heap.size) : IsRC tR tS w' F' base rg R := by
  obtain ⟨nb, vs, lv, h⟩ := h
  exact ⟨nb, vs, lv, h.ext hF ho few⟩
/-- the blocks of the clock alone -/
theorem RefIn.mine (h : RefIn tR tS w F base rg nb vs lv R) : ∀ b ∈ [rg, nb], b ∉ F ∧ base ≤ b := by
  intro b hb
  simp at hb
  rcases hb with rfl | rfl
  · exact ⟨h.rgF, h.rgB⟩
  · exact ⟨h.nbF, h.nbB⟩
theorem RefIn.all (h : RefIn tR tS w F base rg nb vs lv R) : ∀ b ∈ rg :: nb :: F, b < w.heap.size := by
  intro b hb
  simp at hb
  rcases hb with rfl | rfl | hb
  · exact h.head.lt
  · exact h.row.lt
  · exact h.few b hb
/-- a cell of the head that holds no slice turns -/
theorem RefIn.setHead (h : RefIn tR tS w F base rg nb vs lv R) {R' : Ref} {i : Nat} {u : Value} (hc : (refCells nb R.notes.length lv R).set i u = refCells nb R'.notes.length lv R') (h1 : R'.notes = R.notes) (h2 : R'.left = R.left) :
    RefIn tR tS (w.setCell ⟨rg, i, none⟩ u) F base rg nb vs lv R' ∧ Only [rg] w (w.setCell ⟨rg, i, none⟩ u) := by
  have ho : Only [rg] w (w.setCell ⟨rg, i, none⟩ u) := (Only.refl _ _).setCell (.inl (by simp)) _
  have hb := h.head.set i u
  rw [List.setIfInBounds_toArray, hc] at hb
  refine ⟨⟨hb, h.row.only ho (by simpa using h.ne.symm), by rw [h1]; exact h.len, fun t l ht => ?_, by rw [h2]; exact h.left.only ho (by simp), h.ne, h.rgF, h.nbF, h.rgB, h.nbB, fun b hb => Nat.lt_of_lt_of_le (h.few b hb) ho.size⟩, ho⟩
  rw [h1] at ht
  obtain ⟨v, hv, ha⟩ := h.each t l ht
  exact ⟨v, hv, ha.only ho (by simp)⟩
/-- the lines that are left turn -/
theorem RefIn.setLeft (h : RefIn tR tS w F base rg nb vs lv R) (ho0 : Only [] w w') {lv' : Value} {l' : List Int} (ha : Apt w' (rg :: nb :: F) lv' l') :
    RefIn tR tS (w'.setCell ⟨rg, 4, none⟩ lv') F base rg nb vs lv' { R with left := l' } ∧ Only [rg] w (w'.setCell ⟨rg, 4, none⟩ lv') := by
  have h' := h.only0 ho0
  have ho : Only [rg] w' (w'.setCell ⟨rg, 4, none⟩ lv') := (Only.refl _ _).setCell (.inl (by simp)) _
  have hb := h'.head.set 4 lv'
  rw [List.setIfInBounds_toArray] at hb
  refine ⟨⟨hb, h'.row.only ho (by simpa using h.ne.symm), h.len, fun t l ht => ?_, ha.only ho (by simp), h.ne, h.rgF, h.nbF, h.rgB, h.nbB, fun b hb => Nat.lt_of_lt_of_le (h'.few b hb) ho.size⟩, (ho0.mono (T := [rg]) (by simp)).trans ho (by simp)⟩
  obtain ⟨v, hv, hx⟩ := h'.each t l ht
  exact ⟨v, hv, hx.only ho (by simp)⟩
/-- all but the head's left lines is as it was -/
theorem RefIn.rebuild (h : RefIn tR tS w F base rg nb vs lv R) (on : Only [rg] w w') {lv' : Value} {R' : Ref} (hh : Blk w' rg tR (refCells nb R.notes.length lv' R').toArray) (e : R'.notes = R.notes) (ha : Apt w' (rg :: nb :: F) lv' R'.left) : RefIn tR tS w' F base rg nb vs lv' R' := by
  refine ⟨by rw [e]; exact hh, h.row.only on (by simpa using h.ne.symm), by rw [e]; exact h.len, fun t l ht => ?_, ha, h.ne, h.rgF, h.nbF, h.rgB, h.nbB, fun b hb => Nat.lt_of_lt_of_le (h.few b hb) on.size⟩
  rw [e] at ht
  obtain ⟨v, hv, hx⟩ := h.each t l ht
  exact ⟨v, hv, hx.only on (by simp)⟩
/-- the notes of a thread turn -/
theorem RefIn.setNote (h : RefIn tR tS w F base rg nb vs lv R) (ho0 : Only [] w w') {t : Nat} (ht : t < R.notes.length) {v' : Value} {l' : List Int} (ha : Apt w' (rg :: nb :: F) v' l') :
    RefIn tR tS (w'.setCell ⟨nb, t, none⟩ v') F base rg nb (vs.set t v') lv { R with notes := R.notes.set t l' } ∧ Only [nb] w (w'.setCell ⟨nb, t, none⟩ v') := by
  have h' := h.only0 ho0
  have ho : Only [nb] w' (w'.setCell ⟨nb, t, none⟩ v') := (Only.refl _ _).setCell (.inl (by simp)) _
  have hb := h'.row.set t v'
  rw [List.setIfInBounds_toArray] at hb
  refine ⟨⟨?_, hb, by rw [List.length_set]; show _ = (R.notes.set t l').length; rw [List.length_set]; exact h.len, fun s l hs => ?_, h'.left.only ho (by simp), h.ne, h.rgF, h.nbF, h.rgB, h.nbB, fun b hb => Nat.lt_of_lt_of_le (h'.few b hb) ho.size⟩, (ho0.mono (T := [nb]) (by simp)).trans ho (by simp)⟩
  · have := h'.head.only ho (by simpa using h.ne)
    show Blk _ rg tR (refCells nb (R.notes.set t l').length lv { R with notes := R.notes.set t l' }).toArray
    rw [List.length_set]
    exact this
  · by_cases hst : t = s
    · subst hst
      have hs' : (R.notes.set t l')[t]? = some l := hs
      rw [List.getElem?_set_self ht] at hs'
      cases hs'
      exact ⟨v', by rw [List.getElem?_set_self (by rw [h.len]; exact ht)], ha.only ho (by simp)⟩
    · have hs' : (R.notes.set t l')[s]? = some l := hs
      rw [List.getElem?_set_ne hst] at hs'
      obtain ⟨v, hv, hx⟩ := h'.each s l hs'
      exact ⟨v, by rw [List.getElem?_set_ne hst]; exact hv, hx.only ho (by simp)⟩
/-- all notes are gone -/
theorem RefIn.setNotes (h : RefIn tR tS w F base rg nb vs lv R) (ho0 : Only [] w w') {nb' : Nat} (hnb : w.heap.size ≤ nb') (hB : base ≤ w.heap.size) (hrow : Blk w' nb' tS (List.replicate R.notes.length (Value.slice none 0 0)).toArray) :
    RefIn tR tS (w'.setCell ⟨rg, 2, none⟩ (.slice (some ⟨nb', 0, none⟩) R.notes.length R.notes.length)) F base rg nb' (List.replicate R.notes.length (.slice none 0 0)) lv { R with notes := List.replicate R.notes.length [] } ∧ Only [rg] w (w'.setCell ⟨rg, 2, none⟩ (.slice (some ⟨nb', 0, none⟩) R.notes.length R.notes.length)) := by
  have h' := h.only0 ho0
  have ho : Only [rg] w' (w'.setCell ⟨rg, 2, none⟩ (.slice (some ⟨nb', 0, none⟩) R.notes.length R.notes.length)) := (Only.refl _ _).setCell (.inl (by simp)) _
  have hb := h'.head.set 2 (.slice (some ⟨nb', 0, none⟩) R.notes.length R.notes.length)
  rw [List.setIfInBounds_toArray] at hb
  have hlt := h.head.lt
  refine ⟨⟨?_, hrow.only ho (by simp; omega), by simp, fun s l hs => ?_, ?_, by omega, h.rgF, fun hm => by have := h.few _ hm; omega, h.rgB, by omega, fun b hb => Nat.lt_of_lt_of_le (h'.few b hb) ho.size⟩, (ho0.mono (T := [rg]) (by simp)).trans ho (by simp)⟩
  · show Blk _ rg tR (refCells nb' (List.replicate R.notes.length ([] : List Int)).length lv { R with notes := List.replicate R.notes.length [] }).toArray
    rw [List.length_replicate]
    exact hb
  · have hs' : (List.replicate R.notes.length ([] : List Int))[s]? = some l := hs
    rw [List.getElem?_replicate] at hs' ⊢
    split at hs'
    · cases hs'
      rename_i hlt2
      rw [if_pos hlt2]
      exact ⟨_, rfl, Apt.nil _ _⟩
    · cases hs'
  · have := (h.left.ext (Y := rg :: nb' :: F) fun b hb => by
      rcases List.mem_cons.1 hb with rfl | hb
      · simp
      rcases List.mem_cons.1 hb with rfl | hb
      · exact .inr hnb
      · simp [hb])
    exact (this.only ho0 (by simp)).only ho (by simp)
end
/-! ### what it does -/
def noteRNo (R : Ref) (t line : Int) : Int := if t < 0 ∨ (R.notes.length : Int) ≤ t then 1 else if line < 0 ∨ 258 ≤ line then 2 else 0
def noteR (R : Ref) (t : Nat) (line : Int) : Ref := { R with notes := R.notes.set t (R.notes.getD t [] ++ [line]) }
def noteRT (R : Ref) (t line : Int) : Ref := if noteRNo R t line = 0 then noteR R t.toNat line else R
def notedIn (N : List (List Int)) (line : Int) : Bool := N.any fun l => l.any fun x => x == line
theorem notedIn_yes {N : List (List Int)} {line : Int} {t i : Nat} {l : List Int} (ht : N[t]? = some l) (hi : l[i]? = some line) : notedIn N line = true := by
  unfold notedIn
  rw [List.any_eq_true]
  refine ⟨l, List.mem_of_getElem? ht, ?_⟩
  rw [List.any_eq_true]
  exact ⟨line, List.mem_of_getElem? hi, by simp⟩
theorem notedIn_no {N : List (List Int)} {line : Int} (h : ∀ (t : Nat) (l : List Int), N[t]? = some l → ∀ (i : Nat) (x : Int), l[i]? = some x → x ≠ line) : notedIn N line = false := by
  unfold notedIn
  rw [List.any_eq_false]
  intro l hl hy
  obtain ⟨t, ht, rfl⟩ := List.getElem_of_mem hl
  rw [List.any_eq_true] at hy
  obtain ⟨x, hx, he⟩ := hy
  obtain ⟨i, hi, rfl⟩ := List.getElem_of_mem hx
  exact h t _ (List.getElem?_eq_getElem ht) i _ (List.getElem?_eq_getElem hi) (by simpa using he)
/-- the lines below k that are noted -/
def leftTo (N : List (List Int)) (k : Nat) : List Int := ((List.range k).filter fun (j : Nat) => notedIn N (j : Int)).map fun (j : Nat) => (j : Int)
theorem leftTo_succ (N : List (List Int)) (k : Nat) : leftTo N (k + 1) = if notedIn N k = true then leftTo N k ++ [(k : Int)] else leftTo N k := by
  unfold leftTo
  rw [List.range_succ, List.filter_append, List.map_append]
  by_cases h : notedIn N k = true
  · rw [if_pos h]
    simp [h]
  · rw [if_neg h]
    simp [h]
theorem leftTo_length (N : List (List Int)) (k : Nat) : (leftTo N k).length ≤ k := by
  unfold leftTo
  rw [List.length_map]
  exact Nat.le_trans (List.length_filter_le _ _) (by simp)
def beginR (R : Ref) : Ref := { R with now := R.now + 1, notes := List.replicate R.notes.length [], closing := true, left := leftTo R.notes 258, done := 0 }
def beginRNo (R : Ref) : Int := if R.closing then 7 else 0
def beginRT (R : Ref) : Ref := if R.closing then R else beginR R
def stepR (R : Ref) : Ref := if R.closing = false then R else match R.left with
  | _ :: l => { R with left := l }
  | [] => if R.done + 1 = 1 ∨ R.done + 1 = 2 ∨ R.done + 1 = 3 then { R with done := R.done + 1 } else { R with done := R.done + 1, durable := R.now - 1, closing := false }
def stepRA (R : Ref) : Int := if R.closing = false then 0 else match R.left with
  | _ :: _ => 1
  | [] => if R.done + 1 = 1 then 2 else if R.done + 1 = 2 then 3 else if R.done + 1 = 3 then 1 else 2
def stepRE (R : Ref) : Int := if R.closing = false then 12 else 0
end Go.Proofs.FuClk
/- The reference of chapter 9: New, Note, Owed, Epoch, noted, Begin. -/
namespace Go.Proofs.Ytecdalmnndalgaa
open Go.RowKit Go.Proofs.FuMem Go.Proofs.FuClk
set_option maxRecDepth 100000
abbrev RCAt (w : World) (F : List Nat) (base rg : Nat) (R : Ref) : Prop := IsRC 105 42 w F base rg R
abbrev RIn (w : World) (F : List Nat) (base rg nb : Nat) (vs : List Value) (lv : Value) (R : Ref) : Prop := RefIn 105 42 w F base rg nb vs lv R
theorem Try.intsInfo : (Try.prog.info? 42).map (fun i => (i.zero, i.size, i.bytes)) = some (some (.slice none 0 0), 1, 24) := by kernel_rfl
theorem ref9_New_few (n d : Int) (w : World) (h : n < 1 ∨ 4 < n) :
    Calls Try.prog 25 #[.int .i64 n, .int .u64 d] w fun e w' => e = .returned (.tuple #[.pointer none, .int .i64 2]) ∧ w = w' := by
  by_cases h1 : n < 1
  · have q1 : decide (n < 1) = true := by simpa using h1
    clear h
    go_enter Try.func25, Try.ntmps25
    go_wp2
    go_ret2
    exact ⟨rfl, rfl⟩
  · have q1 : decide (n < 1) = false := by simpa using h1
    have h2 : 4 < n := by omega
    have q2 : decide (4 < n) = true := by simpa using h2
    clear h
    go_enter Try.func25, Try.ntmps25
    go_wp2
    go_ret2
    exact ⟨rfl, rfl⟩
theorem ref9_New_end (n d : Int) (w : World) (h : ¬ (n < 1 ∨ 4 < n)) (hd : 1152921504606846976 < d) :
    Calls Try.prog 25 #[.int .i64 n, .int .u64 d] w fun e w' => e = .returned (.tuple #[.pointer none, .int .i64 10]) ∧ w = w' := by
  have h1 : ¬ n < 1 := by omega
  have h2 : ¬ 4 < n := by omega
  have q1 : decide (n < 1) = false := by simpa using h1
  have q2 : decide (4 < n) = false := by simpa using h2
  have q3 : decide (1152921504606846976 < d) = true := by simpa using hd
  clear h
  go_enter Try.func25, Try.ntmps25
  go_wp2
  go_ret2
  exact ⟨rfl, rfl⟩
theorem ref9_New (n : Nat) (d : Int) (F : List Nat) (base : Nat) (w : World) (hF : ∀ b ∈ F, b < w.heap.size) (h1 : 1 ≤ n) (h2 : n ≤ 4) (h3 : 0 ≤ d) (h4 : d ≤ 1152921504606846976) (hb : base ≤ w.heap.size) :
    Calls Try.prog 25 #[.int .i64 n, .int .u64 d] w fun e w' => ∃ rg, e = .returned (.tuple #[.pointer (some ⟨rg, 0, none⟩), .int .i64 0]) ∧ RCAt w' F base rg (newRef n d) ∧ Only [] w w' ∧ w.heap.size ≤ rg ∧ rg < w'.heap.size := by
  obtain ⟨i0, hi, hz0, hz1, hz2⟩ := info_parts Try.intsInfo
  obtain ⟨w1, hmk, hb1, ho1, hs1⟩ := make_blk (P := Try.prog) w 103 42 i0 _ Try.underlying103 hi hz0 hz1 rfl .i64 .i64 n n (by omega) (by rw [hz2]; omega) (by omega)
  have q1 : decide ((n : Int) < 1) = false := by rw [decide_eq_false_iff_not]; omega
  have q2 : decide ((4 : Int) < (n : Int)) = false := by rw [decide_eq_false_iff_not]; omega
  have q3 : decide ((1152921504606846976 : Int) < d) = false := by rw [decide_eq_false_iff_not]; omega
  have hw : IntKind.u64.wrap (d + 1) = d + 1 := by rw [IntKind.wrap_u64]; omega
  have hBl := Blk.new w1 105 #[.int .u64 (d + 1), .int .u64 d, .slice (some ⟨w.heap.size, 0, none⟩) n n, .bool false, .slice none 0 0, .int .i64 0]
  have on : Only [] w1 (w1.alloc (.cells #[.int .u64 (d + 1), .int .u64 d, .slice (some ⟨w.heap.size, 0, none⟩) n n, .bool false, .slice none 0 0, .int .i64 0] 105)) := (Only.refl _ _).alloc _
  have hR := hb1.only on (by simp)
  rw [← List.toArray_replicate] at hR
  have hs2 : w.heap.size < w1.heap.size := by omega
  have HRES : Hid (RCAt (w1.alloc (.cells #[.int .u64 (d + 1), .int .u64 d, .slice (some ⟨w.heap.size, 0, none⟩) n n, .bool false, .slice none 0 0, .int .i64 0] 105)) F base w1.heap.size (newRef n d)) := Lib.hid (by
    refine ⟨w.heap.size, List.replicate n (.slice none 0 0), .slice none 0 0, ?_, hR, by simp [newRef], fun t l ht => ?_, Apt.nil _ _, by omega, fun hm => by have := hF _ hm; omega, fun hm => by have := hF _ hm; omega, by omega, by omega, fun b hb => by have := hF b hb; have := on.size; omega⟩
    · show Blk _ _ _ (refCells w.heap.size (List.replicate n ([] : List Int)).length (.slice none 0 0) (newRef n d)).toArray
      rw [List.length_replicate]
      exact hBl
    · have ht' : (List.replicate n ([] : List Int))[t]? = some l := ht
      rw [List.getElem?_replicate] at ht' ⊢
      split at ht'
      · cases ht'
        rename_i hlt2
        rw [if_pos hlt2]
        exact ⟨_, rfl, Apt.nil _ _⟩
      · cases ht')
  have HO := Lib.hid (ho1.trans0 on)
  have HS := Lib.hid on.size
  have HSZ := Lib.hid hBl.lt
  clear hi hz0 hz1 hz2 hb1 ho1 hs1 hBl on hR hb
  go_enter Try.func25, Try.ntmps25
  go_wp2
  go_ret2
  exact ⟨w1.heap.size, rfl, HRES.out, HO.out, by omega, HSZ.out⟩
theorem ref9_Note_arg (F : List Nat) (base rg : Nat) (R : Ref) (t line : Int) (w : World) (h : RCAt w F base rg R) (ht : t < 0 ∨ (R.notes.length : Int) ≤ t) :
    Calls Try.prog 28 #[.pointer (some ⟨rg, 0, none⟩), .int .i64 t, .int .i64 line] w fun e w' => e = .returned (.int .i64 1) ∧ w = w' := by
  obtain ⟨nb, vs, lv, h⟩ := h
  have hc : w.cell? ⟨rg, 2, none⟩ = some (.slice (some ⟨nb, 0, none⟩) R.notes.length R.notes.length) := h.head.cell 2
  generalize R.notes.length = m at *
  clear h
  by_cases h1 : t < 0
  · have q1 : decide (t < 0) = true := by simpa using h1
    clear ht
    go_enter Try.func28, Try.ntmps28
    go_wp2
    go_ret
    exact ⟨rfl, rfl⟩
  · have q1 : decide (t < 0) = false := by simpa using h1
    have h2 : (m : Int) ≤ t := by omega
    have q2 : decide ((m : Int) ≤ t) = true := by simpa using h2
    clear ht
    go_enter Try.func28, Try.ntmps28
    go_wp2
    go_ret
    exact ⟨rfl, rfl⟩
theorem ref9_Note_range (F : List Nat) (base rg : Nat) (R : Ref) (t line : Int) (w : World) (h : RCAt w F base rg R) (ht : ¬ (t < 0 ∨ (R.notes.length : Int) ≤ t)) (hl : line < 0 ∨ 258 ≤ line) :
    Calls Try.prog 28 #[.pointer (some ⟨rg, 0, none⟩), .int .i64 t, .int .i64 line] w fun e w' => e = .returned (.int .i64 2) ∧ w = w' := by
  obtain ⟨nb, vs, lv, h⟩ := h
  have hc : w.cell? ⟨rg, 2, none⟩ = some (.slice (some ⟨nb, 0, none⟩) R.notes.length R.notes.length) := h.head.cell 2
  generalize R.notes.length = m at *
  clear h
  have h1 : ¬ t < 0 := by omega
  have h2 : ¬ (m : Int) ≤ t := by omega
  have q1 : decide (t < 0) = false := by simpa using h1
  have q2 : decide ((m : Int) ≤ t) = false := by simpa using h2
  clear ht
  by_cases h3 : line < 0
  · have q3 : decide (line < 0) = true := by simpa using h3
    clear hl
    go_enter Try.func28, Try.ntmps28
    go_wp2
    go_ret
    exact ⟨rfl, rfl⟩
  · have q3 : decide (line < 0) = false := by simpa using h3
    have h4 : 258 ≤ line := by omega
    have q4 : decide (258 ≤ line) = true := by simpa using h4
    clear hl
    go_enter Try.func28, Try.ntmps28
    go_wp2
    go_ret
    exact ⟨rfl, rfl⟩
/-- append to no slice, as an operation -/
theorem wp_append_copy {P : Program} {o : Oper} {a : Act} {w : World} {K : Act → World → Prop} {Q : Exit → Act → World → Prop} (s x : Operand) (t : TypeId)
    (ho : o.op = .call { callee := .builtin .append, args := #[s, x], argTypes := #[t, t] })
    (e : TypeId) (i : TypeInfo) (z : Value) (bytes : Nat) (ht : P.underlying t = some (.slice e)) (hi : P.info? e = some i) (hz : i.zero = some z)
    (hsize : i.size = 1) (hby : i.bytes = bytes) (hzs : z.cells.size = 1) (hs : a.eval s = .slice none 0 0)
    (A : Option Addr) (m c : Nat) (news : List Value) (hx : a.eval x = .slice A m c) (hr : Sl w A m news) (h1 : ∀ u ∈ news, u.oneCell' = true)
    (h63 : m ≤ maxLen) (hbytes : m * bytes ≤ 140737488355328)
    (h : ∀ A' c' w', w'.ownsRow w.heap.size e 1 (.slice A' m c') m news → Only [] w w' → K (a.put o.dst (.slice A' m c')) w') : o.wp P a w K Q := by
  obtain ⟨A', c', w', hrun, h2, _, h3⟩ := append_fresh (P := P) w t o.type e i z bytes ht hi hz hsize hby hzs A m c news hr h1 h63 hbytes
  unfold Oper.wp execOp
  simp only [ho, resolve, invoke, builtin, Sem.run_bind, Sem.run_pure, Result.andThen_ok, List.map_toArray, List.map_cons, List.map_nil, hs, hx, hrun]
  exact h A' c' w' h2 h3
/-- append of one to a slice of the call's own, as an operation -/
theorem wp_append_own {P : Program} {o : Oper} {a : Act} {w0 w : World} {K : Act → World → Prop} {Q : Exit → Act → World → Prop} (s x : Operand) (t : TypeId)
    (ho : o.op = .call { callee := .builtin .append, args := #[s, x], argTypes := #[t, t] })
    (e : TypeId) (i : TypeInfo) (z : Value) (bytes : Nat) (ht : P.underlying t = some (.slice e)) (hi : P.info? e = some i) (hz : i.zero = some z)
    (hsize : i.size = 1) (hby : i.bytes = bytes) (hzs : z.cells.size = 1) (on : Only [] w0 w)
    (v : Value) (n : Nat) (xs : List Value) (hs : a.eval s = v) (hown : w.ownsRow w0.heap.size e 1 v n xs)
    (A : Option Addr) (m c : Nat) (news : List Value) (hx : a.eval x = .slice A m c) (hr : Sl w A m news) (h1 : ∀ u ∈ news, u.oneCell' = true)
    (h63 : n + m ≤ maxLen) (hbytes : (n + m) * bytes ≤ 140737488355328)
    (h : ∀ A' c' w', w'.ownsRow w0.heap.size e 1 (.slice A' (n + m) c') (n + m) (xs ++ news) → Only [] w0 w' → K (a.put o.dst (.slice A' (n + m) c')) w') : o.wp P a w K Q := by
  obtain ⟨A', c', w', hrun, h2, _, h3⟩ := append_own (P := P) w on t o.type e i z bytes ht hi hz hsize hby hzs v n xs hown A m c news hr h1 h63 hbytes
  unfold Oper.wp execOp
  simp only [ho, resolve, invoke, builtin, Sem.run_bind, Sem.run_pure, Result.andThen_ok, List.map_toArray, List.map_cons, List.map_nil, hs, hx, hrun]
  exact h A' c' w' h2 h3
set_option maxHeartbeats 1000000 in
theorem ref9_Note (F : List Nat) (base rg : Nat) (R : Ref) (t i : Nat) (w : World) (h : RCAt w F base rg R) (ht : t < R.notes.length) (hi : i < 258) (hfew : ∀ l ∈ R.notes, l.length ≤ 1000) :
    Calls Try.prog 28 #[.pointer (some ⟨rg, 0, none⟩), .int .i64 t, .int .i64 i] w fun e w' => e = .returned (.int .i64 0) ∧ RCAt w' F base rg (noteR R t i) ∧ OnlyX F base w w' := by
  obtain ⟨i0, hI, hz0, hz1, hz2⟩ := info_parts Try.intInfo
  obtain ⟨nb, vs, lv, h⟩ := h
  have hc : w.cell? ⟨rg, 2, none⟩ = some (.slice (some ⟨nb, 0, none⟩) R.notes.length R.notes.length) := h.head.cell 2
  obtain ⟨l, hl⟩ : ∃ l, R.notes[t]? = some l := ⟨_, List.getElem?_eq_getElem ht⟩
  have hgd : R.notes.getD t [] = l := by simp [List.getD, hl]
  have hl1 := hfew l (List.mem_of_getElem? hl)
  obtain ⟨v, hv, A, c, rfl, hls, hlb, _⟩ := h.each t l hl
  have hcv : w.cell? ⟨nb, t, none⟩ = some (.slice A l.length c) := by rw [h.row.cell]; simpa using hv
  have hfr : w.frozen? ⟨nb, t, none⟩ = false := h.row.frozen t
  have q1 : decide ((t : Int) < 0) = false := by rw [decide_eq_false_iff_not]; omega
  have q2 : decide ((R.notes.length : Int) ≤ (t : Int)) = false := by rw [decide_eq_false_iff_not]; omega
  have q3 : decide ((i : Int) < 0) = false := by rw [decide_eq_false_iff_not]; omega
  have q4 : decide ((258 : Int) ≤ (i : Int)) = false := by rw [decide_eq_false_iff_not]; omega
  have q5 : (t : Int) < (R.notes.length : Int) := by omega
  have q6 : (0 : Int) ≤ (t : Int) := by omega
  have HI := Lib.hid hI
  have HZ0 := Lib.hid hz0
  have HZ1 := Lib.hid hz1
  have HZ2 := Lib.hid hz2
  have HL := Lib.hid hls
  have HR := Lib.hid h
  have HLT1 := Lib.hid h.head.lt
  have HLT2 := Lib.hid h.row.lt
  have HFIN : Hid (∀ (w' : World) (A' : Option Addr) (c' : Nat), Only [] w w' → w'.ownsRow w.heap.size 3 1 (.slice A' (l.length + 1) c') (l.length + 1) ((l ++ [(i : Int)]).map (.int .i64)) → RCAt (w'.setCell ⟨nb, t, none⟩ (.slice A' (l.length + 1) c')) F base rg (noteR R t i) ∧ OnlyX F base w (w'.setCell ⟨nb, t, none⟩ (.slice A' (l.length + 1) c'))) := Lib.hid (fun w' A' c' on ho => by
    have ha := Apt.own (X := rg :: nb :: F) ho h.all
    have := h.setNote on ht ha
    have e : noteR R t i = { R with notes := R.notes.set t (l ++ [(i : Int)]) } := by unfold noteR; rw [hgd]
    rw [e]
    exact ⟨⟨nb, _, lv, this.1⟩, [nb], this.2, fun b hb => h.mine b (by simp at hb; simp [hb])⟩)
  have HCELL : Hid (∀ w', Only [] w w' → w'.cell? ⟨rg, 2, none⟩ = some (.slice (some ⟨nb, 0, none⟩) R.notes.length R.notes.length) ∧ w'.cell? ⟨nb, t, none⟩ = some (.slice A l.length c) ∧ w'.frozen? ⟨nb, t, none⟩ = false) := Lib.hid (fun w' on =>
    ⟨(cell_only on h.head.lt (by simp)).trans hc, (cell_only on h.row.lt (by simp)).trans hcv, (h.row.only on (by simp)).frozen t⟩)
  obtain ⟨m, hm⟩ : ∃ m, m = R.notes.length := ⟨_, rfl⟩
  rw [← hm] at hc q2 q5 ht HCELL
  clear hI hz0 hz1 hz2 hls hlb h hl hv hfew hgd hm
  obtain ⟨n, hn⟩ : ∃ n, n = l.length := ⟨_, rfl⟩
  rw [← hn] at hcv hl1 HL HFIN HCELL
  have HN := Lib.hid hn
  clear hn
  go_enter Try.func28, Try.ntmps28
  go_wp2
  obtain ⟨a1, a2, a3⟩ := HCELL.out (w.alloc (.cells #[.int .i64 (i : Int)] 3)) ((Only.refl _ _).alloc _)
  go_region_law (first
    | (rw [if_pos (by rfl)]; refine wp_append_copy _ _ 42 rfl 3 i0 _ 8 Try.underlying42 HI.out HZ0.out HZ1.out HZ2.out rfl rfl A n c (l.map (.int .i64)) rfl (by first | exact HL.out | exact HL.out.only0 (Only.refl _ _).drew | exact HL.out.only0 ((Only.refl _ _).drew.alloc _)) one_I (by unfold maxLen; omega) (by omega) ?_; intro A3 c3 w3 h3 o3; have o3' : Only [] w w3 := (by first | exact (Only.refl _ _).drew.trans0 o3 | exact ((Only.refl _ _).drew.alloc _).trans0 o3); have h3' : w3.ownsRow w.heap.size 3 1 (.slice A3 n c3) n (l.map (.int .i64)) := World.ownsRow.mono h3 (by first | exact (Only.refl [] w).drew.size | exact ((Only.refl [] w).drew.alloc _).size); have O3 := Lib.hid o3; have O3' := Lib.hid o3'; have H3 := Lib.hid h3'; obtain ⟨d1, d2, d3⟩ := HCELL.out _ o3'; obtain ⟨f1, f2, f3⟩ := HCELL.out (w3.alloc (.cells #[.int .i64 (i : Int)] 3)) (o3'.alloc _); clear h3 o3 o3' h3')
    | (rw [if_pos (by rfl)]; refine wp_append_own (w0 := w) _ _ 42 rfl 3 i0 _ 8 Try.underlying42 HI.out HZ0.out HZ1.out HZ2.out rfl (by first | exact O3'.out | exact O3'.out.alloc _) _ n (l.map (.int .i64)) rfl (by first | exact H3.out | exact H3.out.alloc _) _ 1 1 [.int .i64 (i : Int)] rfl (by first | exact cell_new1 _ _ _ | exact Sl.only0 (w := (w.alloc (.cells #[.int .i64 (i : Int)] 3)).drew) (cell_new1 w 3 (.int .i64 (i : Int))) O3.out) (ints_new1 _ _) (by unfold maxLen; omega) (by omega) ?_; intro A4 c4 w4 h4 o4; rw [show l.map (Value.int .i64) ++ [.int .i64 (i : Int)] = (l ++ [(i : Int)]).map (.int .i64) by simp] at h4; have O4 := Lib.hid o4; have H4 := Lib.hid h4; obtain ⟨d1, d2, d3⟩ := HCELL.out _ o4; clear h4 o4))
  all_goals
    go_wp2
    go_ret
    exact ⟨rfl, HFIN.out _ _ _ O4.out H4.out⟩
end Go.Proofs.Ytecdalmnndalgaa
/- The reference of chapter 9: Note whatever is asked, Owed, Epoch, noted, Begin. -/
namespace Go.Proofs.Ytecdalmnndalgaa
open Go.RowKit Go.Proofs.FuMem Go.Proofs.FuClk
set_option maxRecDepth 100000
theorem ref9_Note_any (F : List Nat) (base rg : Nat) (R : Ref) (t line : Int) (w : World) (h : RCAt w F base rg R) (hfew : ∀ l ∈ R.notes, l.length ≤ 1000) :
    Calls Try.prog 28 #[.pointer (some ⟨rg, 0, none⟩), .int .i64 t, .int .i64 line] w fun e w' => e = .returned (.int .i64 (noteRNo R t line)) ∧ RCAt w' F base rg (noteRT R t line) ∧ OnlyX F base w w' := by
  unfold noteRT noteRNo
  by_cases h1 : t < 0 ∨ (R.notes.length : Int) ≤ t
  · rw [if_pos h1]
    refine (ref9_Note_arg F base rg R t line w h h1).mono ?_
    rintro e w' ⟨rfl, rfl⟩
    exact ⟨rfl, h, .refl _ _ _⟩
  · rw [if_neg h1]
    by_cases h2 : line < 0 ∨ 258 ≤ line
    · rw [if_pos h2]
      refine (ref9_Note_range F base rg R t line w h h1 h2).mono ?_
      rintro e w' ⟨rfl, rfl⟩
      exact ⟨rfl, h, .refl _ _ _⟩
    · rw [if_neg h2, if_pos rfl]
      obtain ⟨a, rfl⟩ := Int.eq_ofNat_of_zero_le (show 0 ≤ t by omega)
      obtain ⟨i, rfl⟩ := Int.eq_ofNat_of_zero_le (show 0 ≤ line by omega)
      exact ref9_Note F base rg R a i w h (by omega) (by omega) hfew
theorem ref9_Epoch (F : List Nat) (base rg : Nat) (R : Ref) (w : World) (h : RCAt w F base rg R) :
    Calls Try.prog 52 #[.pointer (some ⟨rg, 0, none⟩)] w fun e w' => e = .returned (.tuple #[.int .u64 (if R.closing then IntKind.u64.wrap (R.now - 1) else 0), .bool R.closing]) ∧ w = w' := by
  obtain ⟨nb, vs, lv, h⟩ := h
  have h0 : w.cell? ⟨rg, 0, none⟩ = some (.int .u64 R.now) := h.head.cell 0
  have h3 : w.cell? ⟨rg, 3, none⟩ = some (.bool R.closing) := h.head.cell 3
  clear h
  generalize R.now = x at *
  cases hc : R.closing with
  | true =>
    rw [hc] at h3
    go_enter Try.func52, Try.ntmps52
    go_wp2
    go_ret2
    exact ⟨rfl, rfl⟩
  | false =>
    rw [hc] at h3
    go_enter Try.func52, Try.ntmps52
    go_wp2
    go_ret2
    exact ⟨rfl, rfl⟩
theorem ref9_Owed (F : List Nat) (base rg : Nat) (R : Ref) (w : World) (h : RCAt w F base rg R) (h4 : R.notes.length ≤ 4) :
    Calls Try.prog 54 #[.pointer (some ⟨rg, 0, none⟩)] w fun e w' => ∃ x, e = .returned x ∧ MadeI w (R.notes.map fun l => (l.length : Int)) x w' := by
  obtain ⟨i0, hi, hz0, hz1, hz2⟩ := info_parts Try.intInfo
  have HI := Lib.hid hi
  have HZ0 := Lib.hid hz0
  have HZ1 := Lib.hid hz1
  have HZ2 := Lib.hid hz2
  obtain ⟨nb, vs, lv, h⟩ := h
  have hc : w.cell? ⟨rg, 2, none⟩ = some (.slice (some ⟨nb, 0, none⟩) R.notes.length R.notes.length) := h.head.cell 2
  have HC := Lib.hid hc
  have HLT := Lib.hid h.head.lt
  have HEACH : Hid (∀ t, t < R.notes.length → ∃ A c l, R.notes[t]? = some l ∧ w.cell? ⟨nb, t, none⟩ = some (.slice A l.length c) ∧ nb < w.heap.size) := Lib.hid (fun t ht => by
    have hl : R.notes[t]? = some R.notes[t] := List.getElem?_eq_getElem ht
    obtain ⟨v, hv, A, c, rfl, _⟩ := h.each t _ hl
    exact ⟨A, c, _, hl, by rw [h.row.cell]; simpa using hv, h.row.lt⟩)
  have HSU : Hid (∀ t l, R.notes[t]? = some l → ((R.notes.take t).map fun l => (l.length : Int)).map (Value.int .i64) ++ [.int .i64 (l.length : Int)] = ((R.notes.take (t + 1)).map fun l => (l.length : Int)).map (Value.int .i64)) := Lib.hid (fun t l hl => by
    rw [List.take_add_one, hl]
    simp)
  have HALL := Lib.hid (show R.notes.take R.notes.length = R.notes from List.take_of_length_le (Nat.le_refl _))
  clear hi hz0 hz1 hz2 h hc
  generalize R.notes = N at *
  obtain ⟨n, hn⟩ : ∃ n, n = N.length := ⟨_, rfl⟩
  rw [← hn] at HC HEACH HALL h4
  have HN := Lib.hid hn
  clear hn
  go_enter Try.func54, Try.ntmps54
  go_wp2
  go_loopw [3, 4] (fun ov kv wr => ∃ j : Nat, j ≤ n ∧ kv = .int .i64 j ∧ wr.ownsRow w.heap.size 3 1 ov j (((N.take j).map fun l => (l.length : Int)).map (.int .i64)) ∧ Only [] w wr) (fun _ kv _ => n - (intOf kv).toNat)
  case atStart => exact ⟨0, by omega, rfl, by simpa using own_nil _ _ _ _, Only.refl _ _⟩
  case round =>
    obtain ⟨j, hj, rfl, ho, on⟩ := hrel
    have x0 := (cell_only on HLT.out (by simp)).trans HC.out
    by_cases hlt : j < n
    · have y1 : (0 : Int) ≤ (j : Int) := by omega
      have y2 : (j : Int) < (n : Int) := by omega
      have y3 : decide ((j : Int) < (n : Int)) = true := by rw [decide_eq_true_eq]; omega
      obtain ⟨A, c, l, hl, hcl, hnb⟩ := HEACH.out j hlt
      have x1 := (cell_only on hnb (by simp) (o := j)).trans hcl
      have HSUJ := Lib.hid (HSU.out j l hl)
      have HO := Lib.hid ho
      have ON := Lib.hid on
      clear ho on hl hcl
      generalize l.length = m at *
      go_wp2_with (at_builtin; obtain ⟨A8, c8, w8, hr8, hw8, hs8, on8⟩ := append_own (P := Try.prog) (wr.alloc (.cells #[.int .i64 (m : Int)] 3)) (ON.out.alloc _) 42 42 3 i0 _ 8 Try.underlying42 HI.out HZ0.out HZ1.out HZ2.out rfl _ j _ (HO.out.alloc _) (some ⟨wr.heap.size, 0, none⟩) 1 1 [.int .i64 (m : Int)] (cell_new1 _ _ _) (ints_new1 _ _) (by unfold maxLen; omega) (by omega); rw [HSUJ.out] at hw8; have H8 := Lib.hid hw8; have N8 := Lib.hid on8; clear hw8 hs8 on8; refine wpList_append_run _ rfl (.tmp 14) (.tmp 23) 42 rfl _ _ rfl rfl _ _ hr8 ?_)
      go_roundw
      · exact ⟨j + 1, by omega, by simp, H8.out, N8.out⟩
      · simp [intOf]
        omega
    · obtain rfl : j = n := by omega
      have y3 : decide ((j : Int) < (j : Int)) = false := by simp
      rw [HALL.out] at ho
      obtain ⟨A', c', rfl, _, _⟩ := own_slice ho
      have HO := Lib.hid ho
      have ON := Lib.hid on
      have hln : (N.map fun l => (l.length : Int)).length = j := by rw [List.length_map]; exact HN.out.symm
      have HLN := Lib.hid hln
      clear ho on hln
      go_wp2
      go_ret
      exact ⟨_, rfl, madeI_own HLN.out HO.out ON.out⟩
set_option maxHeartbeats 1000000 in
theorem ref9_noted (F : List Nat) (base rg : Nat) (R : Ref) (line : Nat) (w : World) (h : RCAt w F base rg R) (h4 : R.notes.length ≤ 4) (hfew : ∀ l ∈ R.notes, l.length ≤ 1000) :
    Calls Try.prog 47 #[.pointer (some ⟨rg, 0, none⟩), .int .i64 line] w fun e w' => e = .returned (.bool (notedIn R.notes line)) ∧ w = w' := by
  obtain ⟨nb, vs, lv, h⟩ := h
  have hc : w.cell? ⟨rg, 2, none⟩ = some (.slice (some ⟨nb, 0, none⟩) R.notes.length R.notes.length) := h.head.cell 2
  have HEACH : Hid (∀ t, t < R.notes.length → ∃ A c l, R.notes[t]? = some l ∧ w.cell? ⟨nb, t, none⟩ = some (.slice A l.length c) ∧ Is w A l.length l ∧ l.length ≤ 1000) := Lib.hid (fun t ht => by
    have hl : R.notes[t]? = some R.notes[t] := List.getElem?_eq_getElem ht
    obtain ⟨v, hv, A, c, rfl, hls, _⟩ := h.each t _ hl
    exact ⟨A, c, _, hl, by rw [h.row.cell]; simpa using hv, hls, hfew _ (List.mem_of_getElem? hl)⟩)
  have HYES := Lib.hid (fun t i l (ht : R.notes[t]? = some l) (hi : l[i]? = some (line : Int)) => notedIn_yes ht hi)
  have HNO := Lib.hid (fun (h : ∀ (t : Nat) (l : List Int), R.notes[t]? = some l → ∀ (i : Nat) (x : Int), l[i]? = some x → x ≠ line) => notedIn_no h)
  clear h hfew
  generalize R.notes = N at *
  obtain ⟨n, hn⟩ : ∃ n, n = N.length := ⟨_, rfl⟩
  rw [← hn] at hc HEACH h4
  have HN := Lib.hid hn
  clear hn
  go_enter Try.func47, Try.ntmps47
  go_wp2
  go_loopw [5, 6] (fun kv _ wr => ∃ j : Nat, j ≤ n ∧ kv = .int .i64 j ∧ (∀ (t : Nat) (l : List Int), t < j → N[t]? = some l → ∀ (i : Nat) (x : Int), l[i]? = some x → x ≠ line) ∧ wr = w) (fun kv _ _ => n - (intOf kv).toNat)
  case atStart => exact ⟨0, by omega, rfl, fun t l ht => by omega, rfl⟩
  case round =>
    obtain ⟨j, hj, rfl, hall, rfl⟩ := hrel
    have HA := Lib.hid hall
    clear hall
    by_cases hlt : j < n
    · have y1 : (0 : Int) ≤ (j : Int) := by omega
      have y2 : (j : Int) < (n : Int) := by omega
      have y3 : decide ((j : Int) < (n : Int)) = true := by rw [decide_eq_true_eq]; omega
      obtain ⟨A, c, l, hl, hcl, his, hfw⟩ := HEACH.out j hlt
      have HL := Lib.hid hl
      have HIS := Lib.hid his
      obtain ⟨m, hm⟩ : ∃ m, m = l.length := ⟨_, rfl⟩
      rw [← hm] at hcl HIS hfw
      have HM := Lib.hid hm
      clear hl his hm
      go_wp2
      go_loopw [6] (fun kv wq => ∃ i : Nat, i ≤ m ∧ kv = .int .i64 i ∧ (∀ (i' : Nat) (x : Int), i' < i → l[i']? = some x → x ≠ line) ∧ wq = wr) (fun kv _ => m - (intOf kv).toNat)
      case atStart => exact ⟨0, by omega, rfl, fun i x hi => by omega, rfl⟩
      case round =>
        obtain ⟨i, hi, rfl, hin, rfl⟩ := hrel
        have HIN := Lib.hid hin
        clear hin
        by_cases hlt2 : i < m
        · have z1 : (0 : Int) ≤ (i : Int) := by omega
          have z2 : (i : Int) < (m : Int) := by omega
          have z3 : decide ((i : Int) < (m : Int)) = true := by rw [decide_eq_true_eq]; omega
          obtain ⟨b, off, hA, hcell⟩ := HIS.out.at_ (by omega)
          have hil : i < l.length := by rw [← HM.out]; exact hlt2
          have hx := hcell i hil
          have hxi : l[i]? = some l[i] := List.getElem?_eq_getElem hil
          have HXI := Lib.hid hxi
          subst hA
          clear hcell hxi
          generalize l[i] = x at *
          by_cases he : x = (line : Int)
          · subst he
            have HRES := Lib.hid (HYES.out j i l HL.out HXI.out)
            go_wp2
            go_ret
            exact ⟨ret_bool HRES.out.symm, rfl⟩
          · have z4 : (x == (line : Int)) = false := by rw [beq_eq_false_iff_ne]; exact he
            have HNE := Lib.hid he
            clear he
            go_wp2
            go_roundw
            · refine ⟨i + 1, by omega, by simp, fun i' x' hi' hx' => ?_, trivial⟩
              by_cases hii : i' = i
              · subst hii
                rw [HXI.out] at hx'
                cases hx'
                exact HNE.out
              · exact HIN.out i' x' (by omega) hx'
            · simp [intOf]
              omega
        · obtain rfl : i = m := by omega
          have z3 : decide ((i : Int) < (i : Int)) = false := by simp
          go_wp2
          go_roundw
          · refine ⟨j + 1, by omega, by simp, fun t l' ht hl' i' x' hx' => ?_, trivial⟩
            by_cases htj : t = j
            · subst htj
              rw [HL.out] at hl'
              cases hl'
              exact HIN.out i' x' (by rw [HM.out]; exact (List.getElem?_eq_some_iff.1 hx').1) hx'
            · exact HA.out t l' (by omega) hl' i' x' hx'
          · simp [intOf]
            omega
    · obtain rfl : j = n := by omega
      have y3 : decide ((j : Int) < (j : Int)) = false := by simp
      have HRES := Lib.hid (HNO.out fun t l hl i x hx => HA.out t l (by rw [HN.out]; exact (List.getElem?_eq_some_iff.1 hl).1) hl i x hx)
      go_wp2
      go_ret
      exact ⟨ret_bool HRES.out.symm, rfl⟩
theorem own_ge {w : World} {base : Nat} {e : TypeId} {size n : Nat} {v : Value} {xs : List Value} (h : w.ownsRow base e size v n xs) (k : Nat) (hk : v.ownBlock = some k) : base ≤ k := by
  rcases h.2 with ⟨e1, _⟩ | ⟨g, cap, cur, e1, hbg, _⟩
  · rw [e1] at hk
    simp [Value.ownBlock] at hk
  · rw [e1] at hk
    simp [Value.ownBlock] at hk
    omega
/-- append to a slice of the call's own: what else turns -/
theorem append_own3 {P : Program} (w : World) {w0 : World} {T : List Nat} (on : Only T w0 w) (t ty e : TypeId) (i : TypeInfo) (z : Value) (bytes : Nat) (ht : P.underlying t = some (.slice e)) (hi : P.info? e = some i) (hz : i.zero = some z)
    (hsize : i.size = 1) (hby : i.bytes = bytes) (hzs : z.cells.size = 1)
    (v : Value) (n : Nat) (xs : List Value) (hown : w.ownsRow w0.heap.size e 1 v n xs)
    (A : Option Addr) (m c : Nat) (news : List Value) (hr : Sl w A m news) (h1 : ∀ u ∈ news, u.oneCell' = true)
    (h63 : n + m ≤ maxLen) (hbytes : (n + m) * bytes ≤ 140737488355328) :
    ∃ A' c' w', (Builtin.append_ #[t, t] ty #[v, .slice A m c]).run P w = .ok (.slice A' (n + m) c') w' ∧ w'.ownsRow w0.heap.size e 1 (.slice A' (n + m) c') (n + m) (xs ++ news) ∧
      Only T w0 w' ∧ ∃ U, Only U w w' ∧ ∀ b ∈ U, w0.heap.size ≤ b := by
  obtain ⟨v', w', hrun, h2, h3, _⟩ := run_append_sl (P := P) w w0.heap.size t ty e i z bytes ht hi hz hsize hby hzs v n xs hown A m c news hr h1 h63 hbytes on.size
  obtain ⟨A', c', rfl, _, _⟩ := own_slice h2
  obtain ⟨A1, c1, rfl, _, hb1⟩ := own_slice hown
  have hU : Only ((Value.slice A1 n c1).ownBlock.toList) w w' := Only.of_grown h3 fun k hk => .inl (by simp [hk])
  have hge : ∀ b ∈ (Value.slice A1 n c1).ownBlock.toList, w0.heap.size ≤ b := fun b hb => own_ge hown b (by simpa using hb)
  exact ⟨A', c', w', hrun, h2, on.trans hU fun b hb => .inr (hge b hb), _, hU, hge⟩
theorem ref9_Begin_busy (F : List Nat) (base rg : Nat) (R : Ref) (w : World) (h : RCAt w F base rg R) (hc : R.closing = true) :
    Calls Try.prog 29 #[.pointer (some ⟨rg, 0, none⟩)] w fun e w' => e = .returned (.int .i64 7) ∧ w = w' := by
  obtain ⟨nb, vs, lv, h⟩ := h
  have h3 : w.cell? ⟨rg, 3, none⟩ = some (.bool R.closing) := h.head.cell 3
  rw [hc] at h3
  clear h
  go_enter Try.func29, Try.ntmps29
  go_wp2
  go_ret
  exact ⟨rfl, rfl⟩
set_option maxHeartbeats 2000000 in
theorem ref9_Begin (F : List Nat) (base rg : Nat) (R : Ref) (w : World) (h : RCAt w F base rg R) (hc : R.closing = false) (h4 : R.notes.length ≤ 4) (h1 : 1 ≤ R.notes.length) (hfew : ∀ l ∈ R.notes, l.length ≤ 1000) (hn : 0 ≤ R.now ∧ R.now + 1 < 18446744073709551616) :
    Calls Try.prog 29 #[.pointer (some ⟨rg, 0, none⟩)] w fun e w' => e = .returned (.int .i64 0) ∧ RCAt w' F base rg (beginR R) ∧ OnlyX F base w w' := by
  obtain ⟨i0, hi, hz0, hz1, hz2⟩ := info_parts Try.intInfo
  have HI := Lib.hid hi
  have HZ0 := Lib.hid hz0
  have HZ1 := Lib.hid hz1
  have HZ2 := Lib.hid hz2
  obtain ⟨s0, si, sz0, sz1, sz2⟩ := info_parts Try.intsInfo
  have SI := Lib.hid si
  have SZ0 := Lib.hid sz0
  have SZ1 := Lib.hid sz1
  have SZ2 := Lib.hid sz2
  obtain ⟨nb, vs, lv, h⟩ := h
  have h3 : w.cell? ⟨rg, 3, none⟩ = some (.bool R.closing) := h.head.cell 3
  rw [hc] at h3
  have h4c : w.cell? ⟨rg, 4, none⟩ = some lv := h.head.cell 4
  have f4 := h.head.frozen 4
  have hset := h.setLeft (lv' := .slice none 0 0) (l' := []) (Only.refl _ _) (Apt.nil _ _)
  have HIN := Lib.hid hset.1
  have HON := Lib.hid hset.2
  have HLT := Lib.hid h.all
  have HMINE := Lib.hid h.mine
  have HH := Lib.hid h
  have HFEW := Lib.hid hfew
  have hln := fun k => leftTo_length R.notes k
  have HLN := Lib.hid hln
  have h0 : leftTo R.notes 0 = [] := rfl
  have HSUC := Lib.hid (fun k => leftTo_succ R.notes k)
  have hw : IntKind.u64.wrap (R.now + 1) = R.now + 1 := by rw [IntKind.wrap_u64]; omega
  have hlo : base ≤ w.heap.size := by have := h.rgB; have := h.head.lt; omega
  have HH0 := Lib.hid h0
  clear hi hz0 hz1 hz2 si sz0 sz1 sz2 h hset hfew hc hn hln h0
  go_enter Try.func29, Try.ntmps29
  go_wp2
  go_loopw [3] (fun kv wr => ∃ (k : Nat) (lv : Value), k ≤ 258 ∧ kv = .int .i64 k ∧ RIn wr F base rg nb vs lv { R with left := leftTo R.notes k } ∧ wr.ownsRow w.heap.size 3 1 lv (leftTo R.notes k).length ((leftTo R.notes k).map (.int .i64)) ∧ Only [rg] w wr) (fun kv _ => 258 - (intOf kv).toNat)
  case atStart => exact ⟨0, _, by omega, rfl, by rw [HH0.out]; exact HIN.out, by rw [HH0.out]; exact own_nil _ _ _ _, HON.out⟩
  case round =>
    obtain ⟨k, lv1, hk, rfl, hin, ho, on⟩ := hrel
    by_cases hlt : k < 258
    · have y1 : decide ((k : Int) < 258) = true := by rw [decide_eq_true_eq]; omega
      have HNT := Lib.hid (ref9_noted F base rg _ k wr ⟨nb, vs, lv1, hin⟩ h4 HFEW.out)
      have hx4 : wr.cell? ⟨rg, 4, none⟩ = some lv1 := hin.head.cell 4
      have fx4 := hin.head.frozen 4
      have hsu := HSUC.out k
      have hlk := HLN.out k
      obtain ⟨A1, c1, rfl, _, _⟩ := own_slice ho
      have HIN2 := Lib.hid hin
      have HO := Lib.hid ho
      have ON := Lib.hid on
      have hsz := on.size
      clear hin ho on
      simp only at HNT
      by_cases hp : notedIn R.notes k = true
      · rw [hp] at HNT
        rw [if_pos hp] at hsu
        have HSU := Lib.hid hsu
        clear hsu hp
        obtain ⟨m, hm⟩ : ∃ m, m = (leftTo R.notes k).length := ⟨_, rfl⟩
        rw [← hm] at hx4 hlk HO
        have HM := Lib.hid hm
        clear hm
        go_wp2_with fail
        refine (HNT.out).mono ?_
        rintro e w' ⟨rfl, rfl⟩
        go_wp2_with (at_builtin; go_loud (obtain ⟨A8, c8, w8, hr8, hw8, on8, U8, hu8, hg8⟩ := append_own3 (P := Try.prog) (wr.alloc (.cells #[.int .i64 (k : Int)] 3)) (ON.out.alloc _) 42 42 3 i0 _ 8 Try.underlying42 HI.out HZ0.out HZ1.out HZ2.out rfl _ m _ (HO.out.alloc _) (some ⟨wr.heap.size, 0, none⟩) 1 1 [.int .i64 (k : Int)] (cell_new1 _ _ _) (ints_new1 _ _) (by unfold maxLen; omega) (by omega); rw [show (leftTo R.notes k).map (Value.int .i64) ++ [.int .i64 (k : Int)] = (leftTo R.notes (k + 1)).map (.int .i64) by rw [HSU.out]; simp] at hw8; have hhd := HIN2.out.head.only ((Only.refl [] wr).alloc (.cells #[.int .i64 (k : Int)] 3)) (by simp); have hhd8 := hhd.only hu8 (fun hm => by have h5 := hg8 _ hm; have h6 := HLT.out rg (by simp); omega); have hx8 : w8.cell? ⟨rg, 4, none⟩ = some (.slice A1 m c1) := (hhd8.cell 4).trans (by rw [HM.out]; rfl); have fx8 := hhd8.frozen 4; have HHD := Lib.hid hhd8; have H8 := Lib.hid hw8; have N8 := Lib.hid on8; clear hw8 on8 hu8 hg8 hhd hhd8; refine wpList_append_run _ rfl (.tmp 22) (.tmp 24) 42 rfl _ _ rfl rfl _ _ hr8 ?_))
        have ho9 : Only [rg] w8 (w8.setCell ⟨rg, 4, none⟩ (.slice A8 (m + 1) c8)) := (Only.refl _ _).setCell (.inl (by simp)) _
        have hb9 := HHD.out.set 4 (.slice A8 (m + 1) c8)
        have hw9 := own_only H8.out ho9 (fun q hq => by have := own_ge H8.out q hq; have h6 := HLT.out rg (by simp); simp; omega)
        have hl9 : (leftTo R.notes (k + 1)).length = m + 1 := by rw [HSU.out, List.length_append, ← HM.out]; rfl
        have hap := Apt.own (X := rg :: nb :: F) hw9 HLT.out
        have hin9 := HH.out.rebuild (N8.out.trans ho9 (by simp)) (R' := { R with left := leftTo R.notes (k + 1) }) (lv' := .slice A8 (m + 1) c8) (by rw [List.setIfInBounds_toArray] at hb9; exact hb9) rfl hap
        have HIN9 := Lib.hid hin9
        have HW9 := Lib.hid hw9
        have HO9 := Lib.hid (N8.out.trans ho9 (by simp))
        have HL9 := Lib.hid hl9
        clear hin9 hap hw9 ho9 hb9 hl9
        go_roundw
        · exact ⟨k + 1, _, by omega, by simp, HIN9.out, by rw [HL9.out]; exact HW9.out, HO9.out⟩
        · simp [intOf]
          omega
      · have hp2 : notedIn R.notes k = false := by simpa using hp
        rw [hp2] at HNT
        rw [if_neg hp] at hsu
        have HSU := Lib.hid hsu
        clear hsu hp hp2
        go_wp2_with fail
        refine (HNT.out).mono ?_
        rintro e w' ⟨rfl, rfl⟩
        go_wp2
        go_roundw
        · exact ⟨k + 1, _, by omega, by simp, by rw [HSU.out]; exact HIN2.out, by rw [HSU.out]; exact HO.out, ON.out⟩
        · simp [intOf]
          omega
    · obtain rfl : k = 258 := by omega
      have y1 : decide (((258 : Nat) : Int) < 258) = false := by rw [decide_eq_false_iff_not]; omega
      obtain ⟨n, hn⟩ : ∃ n, n = R.notes.length := ⟨_, rfl⟩
      obtain ⟨w5, hmk, hb5, ho5, hs5⟩ := make_blk (P := Try.prog) wr 103 42 s0 _ Try.underlying103 SI.out SZ0.out SZ1.out rfl .i64 .i64 R.notes.length R.notes.length (by omega) (by rw [SZ2.out]; omega) (by omega)
      have hsw := on.size
      have hset := hin.setNotes ho5 (Nat.le_refl _) (by omega) (by rw [List.toArray_replicate]; exact hb5)
      have c2 : wr.cell? ⟨rg, 2, none⟩ = some (.slice (some ⟨nb, 0, none⟩) R.notes.length R.notes.length) := hin.head.cell 2
      have hin5 := hin.only0 ho5
      have c52 : w5.cell? ⟨rg, 2, none⟩ = some (.slice (some ⟨nb, 0, none⟩) R.notes.length R.notes.length) := hin5.head.cell 2
      have f52 := hin5.head.frozen 2
      have c53 : w5.cell? ⟨rg, 3, none⟩ = some (.bool R.closing) := hin5.head.cell 3
      have c55 : w5.cell? ⟨rg, 5, none⟩ = some (.int .i64 R.done) := hin5.head.cell 5
      have c50 : w5.cell? ⟨rg, 0, none⟩ = some (.int .u64 R.now) := hin5.head.cell 0
      have f53 := hin5.head.frozen 3
      have f55 := hin5.head.frozen 5
      have f50 := hin5.head.frozen 0
      obtain ⟨h6, o6⟩ := hset
      have h7 := h6.setHead (i := 3) (u := .bool true) (R' := ⟨R.now, R.durable, List.replicate R.notes.length [], true, leftTo R.notes 258, R.done⟩) rfl rfl rfl
      have h8 := h7.1.setHead (i := 5) (u := .int .i64 0) (R' := ⟨R.now, R.durable, List.replicate R.notes.length [], true, leftTo R.notes 258, 0⟩) rfl rfl rfl
      have h9 := h8.1.setHead (i := 0) (u := .int .u64 (R.now + 1)) (R' := ⟨R.now + 1, R.durable, List.replicate R.notes.length [], true, leftTo R.notes 258, 0⟩) rfl rfl rfl
      have HF9 := Lib.hid h9.1
      have HO9 := Lib.hid ((((on.trans o6 (by simp)).trans h7.2 (by simp)).trans h8.2 (by simp)).trans h9.2 (by simp))
      have HB : Hid (beginR R = ⟨R.now + 1, R.durable, List.replicate R.notes.length [], true, leftTo R.notes 258, 0⟩) := Lib.hid rfl
      rw [← hn] at hmk c2 c52 HF9 HO9 HB
      clear h6 o6 h7 h8 h9 hin5 hin ho on hb5 ho5 hs5 hsw hn
      go_wp2
      go_ret
      rw [HB.out]
      exact ⟨rfl, ⟨_, _, _, HF9.out⟩, [rg], HO9.out, fun b hb => HMINE.out b (by simp at hb; simp [hb])⟩
end Go.Proofs.Ytecdalmnndalgaa
/- Begin. -/
namespace Go.Proofs.Ytecdalmnndalgaa
open Go.RowKit Go.Proofs.FuMem Go.Proofs.FuClk
set_option maxRecDepth 100000
theorem clk_Begin_busy (g ob : Nat) (C : Clk) (w : World) (h : ClkAt w g ob C) (h0 : C.phase ≠ 0) :
    Calls Try.prog 14 #[.pointer (some ⟨g, 0, none⟩)] w fun e w' => e = .returned (.int .i64 7) ∧ w = w' := by
  have H1 := Lib.hid (uint64_Load g 0 C.now w h.now)
  have H2 := Lib.hid (uint64_Cas_miss g 2 C.closing 0 C.now w h.clo (h.fr1 2) (fun e => h0 ((closing_zero h.ok).1 e)))
  clear h
  go_enter Try.func14, Try.ntmps14
  go_wp2_with fail
  refine (H1.out).mono ?_
  rintro e w' ⟨rfl, rfl⟩
  go_wp2_with fail
  refine (H2.out).mono ?_
  rintro e w' ⟨rfl, rfl⟩
  go_wp2
  go_ret
  exact ⟨rfl, rfl⟩
theorem falses : Try.zeroCells76 = (bools (List.replicate 258 false)).toArray := by kernel_rfl
theorem store_one (P : Program) {w : World} {a : Addr} {v u : Value} (hv : v.oneCell' = true) (hc : w.cell? a = some u) (hf : w.frozen? a = false) : (store a v).run P w = .ok () (w.setCell a v) := by
  rw [run_store P w a v .plain hv, hc, hf]
  rfl
theorem setCells_blk (P : Program) {w : World} {b : Nat} {t : TypeId} (cs : Array Value) (hb : Blk w b t cs) (vs : List Value) (hl : vs.length = cs.size) (h1 : ∀ v ∈ vs, v.oneCell' = true) : w.setCells b 0 vs = w.setRow b vs.toArray := by
  have e1 := run_storeCells_at P b 0 t vs 0 cs w hb (by omega) h1
  have e2 := run_storeCells_cells (P := P) b 0 vs 0 w (fun j hj => by rw [hb.cell]; simp; omega) (fun j _ => hb.frozen _) h1
  rw [e2] at e1
  have e3 : cs.toList.drop (0 + 0 + vs.length) = [] := List.drop_eq_nil_of_le (by simp [hl])
  rw [e3] at e1
  simpa using e1
theorem clear_ints (g m : Nat) (l : List Int) (hm : l.length = m) (h0 : 0 < m) (w : World) (hb : Blk w g 3 (l.map (Value.int .i64)).toArray) (ty : TypeId) :
    (Builtin.clear_ #[42] ty #[.slice (some ⟨g, 0, none⟩) m m]).run Try.prog w = .ok (.tuple #[]) (w.setRow g ((List.replicate m (0 : Int)).map (Value.int .i64)).toArray) := by
  have hz : ∀ w, (zeroValue 3).run Try.prog w = .ok (.int .i64 0) w := fun w => by kernel_rfl
  rw [Lib.run_clear_slice w 42 3 ty (.int .i64 0) Try.underlying42 hz rfl rfl g 0 m m h0 (fun j hj => by rw [hb.cell]; simp; omega) (fun j _ => hb.frozen _)]
  rw [setCells_blk Try.prog _ hb _ (by simp [hm]) (fun v hv => by rw [(List.mem_replicate.1 hv).2]; rfl), List.map_replicate]
set_option maxHeartbeats 2000000 in
theorem clk_Begin (g ob : Nat) (C : Clk) (w : World) (h : ClkAt w g ob C) (h0 : C.phase = 0) (hn : C.now + 1 < 18446744073709551616) :
    Calls Try.prog 14 #[.pointer (some ⟨g, 0, none⟩)] w fun e w' => e = .returned (.int .i64 0) ∧ ClkAt w' g ob (beginC C) ∧ Only [g, ob] w w' := by
  have hc0 : C.closing = 0 := (closing_zero h.ok).2 h0
  have H1 := Lib.hid (uint64_Load g 0 C.now w h.now)
  have hclo := h.clo
  rw [hc0] at hclo
  have H2 := Lib.hid (uint64_Cas_hit g 2 0 C.now w hclo (h.fr1 2))
  have hN := h.ok.noted
  have hL := h.ok.left
  have hlo := h.ok.lo
  have hid := h.ok.idle h0
  have hw : IntKind.u64.wrap (C.now + 1) = C.now + 1 := by rw [IntKind.wrap_u64]; omega
  have ho1 : Only [g] w (w.setCell ⟨g, 2, none⟩ (.int .u64 C.now)) := (Only.refl _ _).setCell (.inl (by simp)) _
  have hb1 := h.head.set 2 (.int .u64 C.now)
  have hr1 := h.row.only ho1 (by simpa using h.ne.symm)
  have hm4 := h.ok.owed1
  have OKB := Lib.hid (beginC_ok h.ok h0 hn)
  have HNE := Lib.hid h.ne
  rw [cellsOf_raw, raw_set2] at hb1
  generalize hw1 : w.setCell ⟨g, 2, none⟩ (.int .u64 C.now) = w1 at *
  have hsl : Sl w1 (some ⟨g, 4, none⟩) C.noted.length (bools C.noted) := by
    refine Sl.of_blk hb1 4 ?_ (by rw [raw_size hN hL, hN]; omega)
    show bools C.noted = (bools C.noted ++ (bools C.left ++ [stepV _ _ _ _ g C.phase])).take C.noted.length
    rw [← bools_length C.noted, List.take_left' rfl]
  have hsz : (Try.prog.info? 76).map (·.size) = some C.noted.length := by rw [hN]; kernel_rfl
  have HS := Lib.hid hsz
  have HB1 := Lib.hid hb1
  have HR1 := Lib.hid hr1
  have HO1 := Lib.hid ho1
  have HM4 := Lib.hid hm4
  have HFIT1 := Lib.hid (show 262 + (bools C.noted).toArray.size ≤ 521 by simp [bools, hN])
  have HSZ1 := Lib.hid (show (Try.prog.info? 76).map (·.size) = some (bools C.noted).toArray.size by rw [List.size_toArray, bools_length, hN]; kernel_rfl)
  have HSZ2 := Lib.hid (show (Try.prog.info? 76).map (·.size) = some Try.zeroCells76.size by rw [falses]; kernel_rfl)
  have HB1s := Lib.hid (raw_size (a := .int .u64 C.now) (b := .int .u64 C.durable) (c := .int .u64 C.now) (s := .slice (some ⟨ob, 0, none⟩) C.owed.length C.owed.length) (v := stepV 40 65 75 79 g C.phase) hN hL)
  have HN := Lib.hid hN
  have HL := Lib.hid hL
  have HPH := Lib.hid h0
  clear h hclo hb1 hr1 ho1 hm4 hw1 hsz hN hL h0 hid hlo hc0 hn
  have hmf : ∀ (fn : Fn) (first cap : Array Value) (w : World), (Instr.makeFunc fn first cap).run Try.prog w = .ok (.func fn first cap) w := fun _ _ _ _ => rfl
  go_enter Try.func14, Try.ntmps14
  go_wp2_with fail
  refine (H1.out).mono ?_
  rintro e w' ⟨rfl, rfl⟩
  go_wp2_with fail
  refine H2.out.mono ?_
  rintro e w' ⟨rfl, rfl⟩
  go_wp2_with (first
    | ((with_reducible show wpList _ _ _ (Oper.mk (some 21) _ _ _ _ _ :: _) _ _); refine wpList_load_bools rfl 76 (.tmp 20) rfl g 4 rfl C.noted hsl 258 4 Try.underlying76 HS.out ?_)
    | ((with_reducible show wpList _ _ _ (Oper.mk none _ _ _ _ _ :: _) _ _); refine wpList_store_blk rfl 76 (.tmp 24) (.tmp 21) rfl g 262 (bools C.noted).toArray rfl rfl 79 _ HB1.out (by rw [HB1s.out]; exact HFIT1.out) HSZ1.out (bools_one _) ?_; intro w2 hb2 ho2 hs2; have hb2' := hb2; rw [List.toList_toArray, raw_lefts HN.out HL.out HN.out] at hb2'; have HB2 := Lib.hid hb2'; have HO2 := Lib.hid ho2; clear hb2 hb2' ho2)
    | ((with_reducible show wpList _ _ _ (Oper.mk none _ _ _ _ _ :: _) _ _); refine wpList_store_blk rfl 76 (.tmp 26) (.tmp 22) rfl g 4 Try.zeroCells76 rfl rfl 79 _ HB2.out (by rw [raw_size HN.out HN.out, falses]; simp [bools]) HSZ2.out (by rw [falses]; exact bools_one _) ?_; intro w3 hb3 ho3 hs3; have hb3' := hb3; rw [falses, List.toList_toArray, raw_noteds HN.out (List.length_replicate)] at hb3'; have HB3 := Lib.hid hb3'; have HO3 := Lib.hid ho3; have c3 : w3.cell? ⟨g, 3, none⟩ = some (.slice (some ⟨ob, 0, none⟩) C.owed.length C.owed.length) := (hb3'.cell 3).trans rfl;
        have hr3 := (HR1.out.only HO2.out (by simpa using HNE.out.symm)).only ho3 (by simpa using HNE.out.symm); have hcl := clear_ints ob C.owed.length C.owed rfl (by have := HM4.out; omega) w3 hr3; have HR3 := Lib.hid hr3; clear hb3 hb3' ho3 hr3))
  rw [show (Array.replicate C.owed.length (Value.int .i64 0)) = ((List.replicate C.owed.length (0 : Int)).map (Value.int .i64)).toArray by simp]
  have ho4 : Only [ob] w3 (w3.setRow ob ((List.replicate C.owed.length (0 : Int)).map (Value.int .i64)).toArray) := (Only.refl _ _).setRow (.inl (by simp)) _
  have hb4 := HB3.out.only ho4 (by simpa using HNE.out)
  have hr4 := HR3.out.row ((List.replicate C.owed.length (0 : Int)).map (Value.int .i64)).toArray
  have HO4 := Lib.hid (((HO1.out.trans HO2.out (by simp)).trans HO3.out (by simp)).mono (T := [g, ob]) (by simp) |>.trans ho4 (by simp))
  clear hcl c3 ho4 hs2 hs3 hsl HSZ1 HSZ2 HFIT1 HB1s HB1 HB2 HB3 HR1 HR3 HS
  generalize w3.setRow ob ((List.replicate C.owed.length (0 : Int)).map (Value.int .i64)).toArray = w4 at *
  have hb5 := hb4.set 0 (.int .u64 (C.now + 1))
  have ho5 : Only [g] w4 (w4.setCell ⟨g, 0, none⟩ (.int .u64 (C.now + 1))) := (Only.refl _ _).setCell (.inl (by simp)) _
  have hr5 := hr4.only ho5 (by simpa using HNE.out.symm)
  have H5 := uint64_Store g 0 (.int .u64 C.now) (C.now + 1) w4 ((hb4.cell 0).trans rfl) (hb4.frozen 0)
  rw [raw_set0] at hb5
  generalize w4.setCell ⟨g, 0, none⟩ (.int .u64 (C.now + 1)) = w5 at *
  refine H5.mono ?_
  rintro e w' ⟨rfl, rfl⟩
  have c520 : w5.cell? ⟨g, 520, none⟩ = some (stepV 40 65 75 79 g C.phase) := (hb5.cell 520).trans (raw_at520 (List.length_replicate) HN.out)
  have f520 := hb5.frozen 520
  have hb6 := hb5.set 520 (.func (.func 40) #[.pointer (some ⟨g, 0, none⟩)] #[])
  have ho6 : Only [g] w5 (w5.setCell ⟨g, 520, none⟩ (.func (.func 40) #[.pointer (some ⟨g, 0, none⟩)] #[])) := (Only.refl _ _).setCell (.inl (by simp)) _
  have hr6 := hr5.only ho6 (by simpa using HNE.out.symm)
  rw [raw_step (List.length_replicate) HN.out] at hb6
  have HF : Hid (ClkAt (w5.setCell ⟨g, 520, none⟩ (.func (.func 40) #[.pointer (some ⟨g, 0, none⟩)] #[])) g ob (beginC C)) := Lib.hid (by
    refine ⟨?_, ?_, HNE.out, OKB.out⟩
    · rw [cellsOf_raw]
      have e : (beginC C).closing = C.now := by unfold Clk.closing beginC; simp
      rw [e]
      unfold beginC
      simp only [List.length_replicate]
      exact hb6
    · exact hr6)
  have HFO := Lib.hid ((HO4.out.trans ho5 (by simp)).trans ho6 (by simp))
  clear hb5 hr5 hb6 hr6 ho5 ho6 hb4 hr4 H5
  generalize stepV 40 65 75 79 g C.phase = sv at *
  have hst := store_one Try.prog (v := .func (.func 40) #[.pointer (some ⟨g, 0, none⟩)] #[]) rfl c520 f520
  go_wp2
  go_ret
  exact ⟨rfl, HF.out, HFO.out⟩
def beginNo (C : Clk) : Int := if C.phase = 0 then 0 else 7
def beginT (C : Clk) : Clk := if C.phase = 0 then beginC C else C
theorem clk_Begin_any (g ob : Nat) (C : Clk) (w : World) (h : ClkAt w g ob C) (hn : C.now + 1 < 18446744073709551616) :
    Calls Try.prog 14 #[.pointer (some ⟨g, 0, none⟩)] w fun e w' => e = .returned (.int .i64 (beginNo C)) ∧ ClkAt w' g ob (beginT C) ∧ Only [g, ob] w w' := by
  unfold beginT beginNo
  by_cases h0 : C.phase = 0
  · rw [if_pos h0, if_pos h0]
    exact clk_Begin g ob C w h h0 hn
  · rw [if_neg h0, if_neg h0]
    refine (clk_Begin_busy g ob C w h h0).mono ?_
    rintro e w' ⟨rfl, rfl⟩
    exact ⟨rfl, h, Only.refl _ _⟩
end Go.Proofs.Ytecdalmnndalgaa
/- Slices of structs that came in: each field's cell, and its own reading. -/
namespace Go.Proofs.Ytecdalmnndalgaa
open Go.ChangeShapes Go.WideShapes Go.ChangeAt Go.RowKit Go.Proofs.FuMem Go.Deep
section
variable {H : Type} {enc : TypeId × Value → H} {P : Program} {w : World} {base : Nat} {held : Bool}
theorem open_table {t e : TypeId} {fs : Array Field} {A : Option Addr} {n c : Nat} {d : DataW H} {p : List MemPlace} (ht : P.underlying t = some (.slice e)) (he : P.underlying e = some (.struct fs))
    (hone : oneCellFields P fs = true) (hC : P.cellsOf e = fs.size) (h0 : 0 < fs.size) (h : DataW.Trod enc P w base (fun _ => true) held t (.slice A n c) d p) :
    n ≤ c ∧ c ≤ maxLen ∧ (n = 0 ∨ ∃ b off, A = some ⟨b, off, none⟩ ∧ ∀ i, i < n → ∀ j f, fs[j]? = some f →
      ∃ v y m, w.cell? ⟨b, off + (i * fs.size + j), none⟩ = some v ∧ DataW.trod enc P w base (fun _ => true) held m f.type [v] = some y) := by
  obtain ⟨fuel, hf⟩ := h
  rcases open_slice ht hf with ⟨hcs, _⟩ | ⟨a, len, cap, m, k, D, Pl, hcs, _, hl, hm, hmm, _, hi⟩
  · simp [Value.cells] at hcs
    obtain ⟨rfl, rfl, rfl⟩ := hcs
    exact ⟨Nat.le_refl _, Nat.zero_le _, .inl rfl⟩
  · simp [Value.cells] at hcs
    obtain ⟨rfl, rfl, rfl⟩ := hcs
    refine ⟨hl, hm, ?_⟩
    by_cases hn : n = 0
    · exact .inl hn
    have each : ∀ i, i < n → ∀ j f, fs[j]? = some f → ∃ v y m, w.cell? (a.add (i * fs.size + j)) = some v ∧ DataW.trod enc P w base (fun _ => true) held m f.type [v] = some y := by
      intro i hin j f hj
      obtain ⟨cs, hc, ht'⟩ := hi i (by simp at hmm; omega)
      obtain ⟨ys, m', _, _, hlen, hyl, hg⟩ := DataW.trod_struct he ht'
      obtain ⟨_, _, hat⟩ := World.cells?_some hc
      obtain ⟨ho, hk⟩ := hone_of hone j f hj
      have hjl : j < fs.size := (Array.getElem?_eq_some_iff.1 hj).1
      have hjc : j < cs.length := by omega
      have h1 := hg j f hj
      rw [ho, hk] at h1
      have e1 : (cs.drop j).take 1 = [cs[j]] := by
        rw [List.drop_eq_getElem_cons hjc, List.take_succ_cons, List.take_zero]
      rw [e1, List.getElem?_eq_getElem (by omega)] at h1
      refine ⟨_, _, m', ?_, h1⟩
      rw [← add_add, ← hC, hat j (by omega), List.getElem?_eq_getElem hjc]
    obtain ⟨b, off, spot⟩ := a
    have hs : spot = none := by
      obtain ⟨v, _, _, hv, _⟩ := each 0 (by omega) 0 fs[0] (Array.getElem?_eq_getElem h0)
      simpa [Addr.add] using World.cell?_spot hv
    subst hs
    refine .inr ⟨b, off, rfl, fun i hin j f hj => ?_⟩
    have := each i hin j f hj
    simpa only [Addr.add_lit] using this
theorem field_int {t : TypeId} {v : Value} {y : DataW H × List MemPlace} {m : Nat} {sp : Nat → Bool} (ht : P.underlying t = some (.int .i64)) (h : DataW.trod enc P w base sp held m t [v] = some y) :
    ∃ x : Int, v = .int .i64 x ∧ -9223372036854775808 ≤ x ∧ x ≤ 9223372036854775807 := by
  obtain ⟨x, hv, _, hw⟩ := DataW.trod_int ht h
  simp at hv
  exact ⟨x, hv, bounds_i64 hw⟩
theorem field_slice {t e : TypeId} {k : IntKind} {v : Value} {y : DataW H × List MemPlace} {m : Nat} (ht : P.underlying t = some (.slice e)) (he : P.underlying e = some (.int k)) (hc : P.cellsOf e = 1) (h : DataW.trod enc P w base (fun _ => true) held m t [v] = some y) :
    ∃ A n c zs, v = .slice A n c ∧ IsRow k w A n c zs := by
  rcases open_ints ht he hc h with ⟨hcs, _⟩ | ⟨x, l, c, zs, hcs, _, hl, hm, hz, _, hcell, hwz⟩
  · simp at hcs
    subst hcs
    exact ⟨none, 0, 0, [], rfl, .inl ⟨rfl, rfl, rfl, rfl⟩⟩
  · simp at hcs
    subst hcs
    exact ⟨_, l, c, zs, rfl, .inr ⟨_, rfl, hl, hm, by simpa using hz, hcell, hwz⟩⟩
end
end Go.Proofs.Ytecdalmnndalgaa
/- Counters that are added to, read and set atomically. -/
namespace Go.Proofs.Ytecdalmnndalgaa
open Go.RowKit Go.Proofs.FuMem
set_option maxRecDepth 100000
theorem int64_Add (g k : Nat) (x : Int) (w : World) (hc : w.cell? ⟨g, k, none⟩ = some (.int .i64 x)) (hf : w.frozen? ⟨g, k, none⟩ = false) :
    Calls Try.prog 42 #[.pointer (some ⟨g, k, none⟩), .int .i64 1] w fun e w' => e = .returned (.int .i64 (wrap64 (x + 1))) ∧ w.setCell ⟨g, k, none⟩ (.int .i64 (wrap64 (x + 1))) = w' := by
  have hadd := run_call_add (P := Try.prog) Try.func66 (by kernel_rfl) (by kernel_rfl) (by kernel_rfl) .i64 (by kernel_rfl) (y := 1) (s := wrap64 (x + 1)) hc hf (by simp [go_sem, wrap64_eq])
  go_enter Try.func42, Try.ntmps42
  go_wp2
  go_ret
  exact ⟨rfl, rfl⟩
end Go.Proofs.Ytecdalmnndalgaa
/- Devices: lines with three copies, counts; how they lie in memory. Over any program. -/
namespace Go.Proofs.FuNvm
open Go.RowKit Go.Proofs.FuMem
structure Line where
  now : List UInt8
  kept : List UInt8
  way : List UInt8
  sent : Bool
def Line.Ok (x : Line) : Prop := x.now.length = 64 ∧ x.kept.length = 64 ∧ x.way.length = 64
structure Dev where
  lines : List Line
  stores : Int
  flushes : Int
  fences : Int
  backs : Int
  cuts : Int
def cellsOf (x : Line) : List Value := x.now.map B ++ x.kept.map B ++ x.way.map B ++ [.bool x.sent]
theorem cellsOf_length {x : Line} (h : x.Ok) : (cellsOf x).length = 193 := by
  obtain ⟨h1, h2, h3⟩ := h
  simp [cellsOf, h1, h2, h3]
theorem cellsOf_one (x : Line) : ∀ v ∈ cellsOf x, v.oneCell' = true := by
  intro v hv
  simp only [cellsOf, List.mem_append, List.mem_singleton] at hv
  rcases hv with ((hv | hv) | hv) | hv
  · exact one_B v hv
  · exact one_B v hv
  · exact one_B v hv
  · subst hv; rfl
def flat (L : List Line) : List Value := L.flatMap cellsOf
def AllOk (L : List Line) : Prop := ∀ x ∈ L, x.Ok
theorem flat_cons (x : Line) (L : List Line) : flat (x :: L) = cellsOf x ++ flat L := rfl
theorem flat_append (L M : List Line) : flat (L ++ M) = flat L ++ flat M := by simp [flat]
theorem flat_length {L : List Line} (h : AllOk L) : (flat L).length = L.length * 193 := by
  induction L with
  | nil => rfl
  | cons x L ih =>
    rw [flat_cons, List.length_append, cellsOf_length (h x (by simp)), ih (fun y hy => h y (by simp [hy])), List.length_cons]
    omega
theorem AllOk.take {L : List Line} (h : AllOk L) (i : Nat) : AllOk (L.take i) := fun x hx => h x (List.mem_of_mem_take hx)
theorem AllOk.set {L : List Line} (h : AllOk L) (i : Nat) {y : Line} (hy : y.Ok) : AllOk (L.set i y) := fun x hx => by
  rcases List.mem_or_eq_of_mem_set hx with h1 | h1
  · exact h x h1
  · rw [h1]; exact hy
theorem AllOk.get {L : List Line} (h : AllOk L) {i : Nat} (hi : i < L.length) : (L[i]).Ok := h _ (List.getElem_mem hi)
theorem flat_split (L : List Line) (i : Nat) (hi : i < L.length) : flat L = flat (L.take i) ++ (cellsOf L[i] ++ flat (L.drop (i + 1))) := by
  rw [← flat_cons, ← flat_append, ← List.drop_eq_getElem_cons hi, List.take_append_drop]
theorem flat_read {L : List Line} (h : AllOk L) {i : Nat} (hi : i < L.length) {o m : Nat} (hm : o + m ≤ 193) : ((flat L).drop (i * 193 + o)).take m = ((cellsOf L[i]).drop o).take m := by
  have hl := flat_length (h.take i)
  rw [List.length_take, Nat.min_eq_left (by omega)] at hl
  have hc := cellsOf_length (h.get hi)
  have e : (flat L).drop (i * 193) = cellsOf L[i] ++ flat (L.drop (i + 1)) := by
    rw [flat_split L i hi, ← hl, List.drop_left]
  rw [← List.drop_drop, e, List.drop_append_of_le_length (by omega), List.take_append_of_le_length (by rw [List.length_drop]; omega)]
/-- what is written within one line -/
theorem flat_write {L : List Line} (h : AllOk L) {i : Nat} (hi : i < L.length) {o : Nat} {vs : List Value} (hm : o + vs.length ≤ 193) {y : Line}
    (hy : cellsOf y = (cellsOf L[i]).take o ++ vs ++ (cellsOf L[i]).drop (o + vs.length)) (cs : List Value) (hp : cs.take (L.length * 193) = flat L) :
    (cs.take (i * 193 + o) ++ vs ++ cs.drop (i * 193 + o + vs.length)).take (L.length * 193) = flat (L.set i y) := by
  have hl := flat_length (h.take i)
  rw [List.length_take, Nat.min_eq_left (by omega)] at hl
  have hc := cellsOf_length (h.get hi)
  have hfl := flat_length h
  have hi2 : (i + 1) * 193 ≤ L.length * 193 := Nat.mul_le_mul_right _ hi
  have hcl : L.length * 193 ≤ cs.length := by
    have := congrArg List.length hp
    rw [List.length_take, hfl] at this
    omega
  have e1 : cs.take (i * 193 + o) = flat (L.take i) ++ (cellsOf L[i]).take o := by
    have : cs.take (i * 193 + o) = (cs.take (L.length * 193)).take (i * 193 + o) := by rw [List.take_take, Nat.min_eq_left (by omega)]
    rw [this, hp, flat_split L i hi, List.take_append, hl, List.take_of_length_le (by omega), show i * 193 + o - i * 193 = o by omega, List.take_append_of_le_length (by omega)]
  have e2 : (cs.drop (i * 193 + o + vs.length)).take (L.length * 193 - (i * 193 + o + vs.length)) = (cellsOf L[i]).drop (o + vs.length) ++ flat (L.drop (i + 1)) := by
    rw [← List.drop_take, hp, flat_split L i hi, List.drop_append, hl, List.drop_eq_nil_of_le (by omega), List.nil_append, show i * 193 + o + vs.length - i * 193 = o + vs.length by omega, List.drop_append_of_le_length (by omega)]
  have hlen : (cs.take (i * 193 + o) ++ vs).length = i * 193 + o + vs.length := by
    rw [List.length_append, List.length_take, Nat.min_eq_left (by omega)]
  rw [List.take_append, List.take_of_length_le (by omega), hlen, e2, e1]
  have hset : L.set i y = L.take i ++ y :: L.drop (i + 1) := by rw [List.set_eq_take_append_cons_drop, if_pos hi]
  rw [hset, flat_append, flat_cons, hy]
  simp only [List.append_assoc]
/-! ### in memory -/
def countsOf (D : Dev) : List Value := [.int .i64 D.stores, .int .i64 D.flushes, .int .i64 D.fences, .int .i64 D.backs, .int .i64 D.cuts]
/-- the device's own block -/
def headOf (cb cap : Nat) (D : Dev) : Array Value := #[.slice (some ⟨cb, 0, none⟩) D.lines.length cap, .int .i64 D.stores, .int .i64 D.flushes, .int .i64 D.fences, .int .i64 D.backs, .int .i64 D.cuts]
structure IsDev (tD tC : TypeId) (w : World) (g cb cap : Nat) (D : Dev) : Prop where
  head : Blk w g tD (headOf cb cap D)
  body : ∃ cs, Blk w cb tC cs ∧ cs.toList.take (D.lines.length * 193) = flat D.lines
  ne : g ≠ cb
  ok : AllOk D.lines
  few : D.lines.length ≤ 258
  cap_le : D.lines.length ≤ cap
section
variable {tD tC : TypeId} {w w' : World} {S : List Nat} {g cb cap : Nat} {D : Dev}
theorem IsDev.only (h : IsDev tD tC w g cb cap D) (ho : Only S w w') (h1 : g ∉ S) (h2 : cb ∉ S) : IsDev tD tC w' g cb cap D :=
  ⟨h.head.only ho h1, let ⟨cs, hb, hp⟩ := h.body; ⟨cs, hb.only ho h2, hp⟩, h.ne, h.ok, h.few, h.cap_le⟩
theorem IsDev.only0 (h : IsDev tD tC w g cb cap D) (ho : Only [] w w') : IsDev tD tC w' g cb cap D := h.only ho (by simp) (by simp)
theorem IsDev.lt1 (h : IsDev tD tC w g cb cap D) : g < w.heap.size := h.head.lt
theorem IsDev.lt2 (h : IsDev tD tC w g cb cap D) : cb < w.heap.size := let ⟨_, hb, _⟩ := h.body; hb.lt
theorem body_size {cs : Array Value} (hok : AllOk D.lines) (hp : cs.toList.take (D.lines.length * 193) = flat D.lines) : D.lines.length * 193 ≤ cs.size := by
  have := congrArg List.length hp
  rw [List.length_take, flat_length hok, Array.length_toList] at this
  omega
/-- a piece of a line -/
theorem IsDev.sl (h : IsDev tD tC w g cb cap D) {i : Nat} (hi : i < D.lines.length) {o m : Nat} (hm : o + m ≤ 193) : Sl w (some ⟨cb, i * 193 + o, none⟩) m (((cellsOf D.lines[i]).drop o).take m) := by
  obtain ⟨cs, hb, hp⟩ := h.body
  have hs := body_size h.ok hp
  have hi2 : (i + 1) * 193 ≤ D.lines.length * 193 := Nat.mul_le_mul_right _ hi
  refine Sl.of_blk hb (i * 193 + o) ?_ (by omega)
  rw [← flat_read h.ok hi hm, ← hp, List.drop_take, List.take_take, Nat.min_eq_left (by omega)]
theorem IsDev.now (h : IsDev tD tC w g cb cap D) {i : Nat} (hi : i < D.lines.length) : Bs w (some ⟨cb, i * 193, none⟩) 64 (D.lines[i]).now := by
  have := h.sl hi (o := 0) (m := 64) (by omega)
  obtain ⟨h1, h2, h3⟩ := h.ok.get hi
  rw [List.drop_zero, cellsOf, List.append_assoc, List.append_assoc, List.take_append_of_le_length (by simp [h1]), List.take_of_length_le (by simp [h1])] at this
  exact this
theorem IsDev.kept (h : IsDev tD tC w g cb cap D) {i : Nat} (hi : i < D.lines.length) : Bs w (some ⟨cb, i * 193 + 64, none⟩) 64 (D.lines[i]).kept := by
  have := h.sl hi (o := 64) (m := 64) (by omega)
  obtain ⟨h1, h2, h3⟩ := h.ok.get hi
  rw [cellsOf, List.append_assoc, List.append_assoc, List.drop_append, List.drop_eq_nil_of_le (by simp [h1]), List.nil_append, List.length_map, h1, Nat.sub_self, List.drop_zero, List.take_append_of_le_length (by simp [h2]), List.take_of_length_le (by simp [h2])] at this
  exact this
theorem IsDev.way (h : IsDev tD tC w g cb cap D) {i : Nat} (hi : i < D.lines.length) : Bs w (some ⟨cb, i * 193 + 128, none⟩) 64 (D.lines[i]).way := by
  have := h.sl hi (o := 128) (m := 64) (by omega)
  obtain ⟨h1, h2, h3⟩ := h.ok.get hi
  rw [cellsOf, List.append_assoc, List.drop_append, List.drop_eq_nil_of_le (by simp [h1, h2]), List.nil_append, List.length_append, List.length_map, List.length_map, h1, h2, Nat.sub_self, List.drop_zero, List.take_append_of_le_length (by simp [h3]), List.take_of_length_le (by simp [h3])] at this
  exact this
theorem IsDev.sentCell (h : IsDev tD tC w g cb cap D) {i : Nat} (hi : i < D.lines.length) : w.cell? ⟨cb, i * 193 + 192, none⟩ = some (.bool (D.lines[i]).sent) := by
  have := h.sl hi (o := 192) (m := 1) (by omega)
  obtain ⟨h1, h2, h3⟩ := h.ok.get hi
  rw [cellsOf, List.drop_append, List.drop_eq_nil_of_le (by simp [h1, h2, h3]), List.nil_append, List.length_append, List.length_append, List.length_map, List.length_map, List.length_map, h1, h2, h3] at this
  obtain ⟨b, off, e, hc⟩ := this.at_ (by omega)
  cases e
  simpa using hc 0 (by simp)
theorem IsDev.frozen2 (h : IsDev tD tC w g cb cap D) (k : Nat) : w.frozen? ⟨cb, k, none⟩ = false := let ⟨_, hb, _⟩ := h.body; hb.frozen k
theorem IsDev.frozen1 (h : IsDev tD tC w g cb cap D) (k : Nat) : w.frozen? ⟨g, k, none⟩ = false := h.head.frozen k
theorem IsDev.cell (h : IsDev tD tC w g cb cap D) (k : Nat) : w.cell? ⟨g, k, none⟩ = (headOf cb cap D)[k]? := h.head.cell k
/-- one line has turned -/
theorem IsDev.write (h : IsDev tD tC w g cb cap D) {i : Nat} (hi : i < D.lines.length) {o : Nat} {vs : List Value} (hm : o + vs.length ≤ 193) {y : Line}
    (hy : cellsOf y = (cellsOf D.lines[i]).take o ++ vs ++ (cellsOf D.lines[i]).drop (o + vs.length)) (hyo : y.Ok)
    (cs : Array Value) (hp : cs.toList.take (D.lines.length * 193) = flat D.lines) (hb : Blk w' cb tC (FuMem.splice cs (i * 193 + o) vs)) (on : Only [cb] w w') :
    IsDev tD tC w' g cb cap { D with lines := D.lines.set i y } := by
  refine ⟨?_, ⟨_, hb, ?_⟩, h.ne, h.ok.set i hyo, by simpa using h.few, by simpa using h.cap_le⟩
  · have := h.head.only on (by simpa using h.ne)
    unfold headOf at this ⊢
    simpa using this
  · have := flat_write h.ok hi hm hy cs.toList hp
    unfold FuMem.splice
    simpa using this
end
end Go.Proofs.FuNvm
/- The contracts of package nvm, first part: the bounds, the bytes of a line. -/
namespace Go.Proofs.Ytecdalmnndalgaa
open Go.RowKit Go.Proofs.FuMem Go.Proofs.FuNvm Go.Proofs.FuCode
set_option maxRecDepth 100000
theorem byteSizeN : (Try.prog.info? 5).map (·.size) = some 1 := by kernel_rfl
/-- is there no such line, or not so many of its bytes? -/
def noPlace (len : Nat) (line at_ n : Int) : Prop := line < 0 ∨ (len : Int) ≤ line ∨ at_ < 0 ∨ 64 - n < at_
abbrev DevAt (w : World) (g cb cap : Nat) (D : Dev) : Prop := IsDev 87 94 w g cb cap D
theorem nvm_there_no (g cb cap : Nat) (D : Dev) (line at_ n : Int) (w : World) (hd : DevAt w g cb cap D) (hn : 0 ≤ n ∧ n ≤ 9223372036854775807) (h : noPlace D.lines.length line at_ n) :
    Calls Try.prog 41 #[.pointer (some ⟨g, 0, none⟩), .int .i64 line, .int .i64 at_, .int .i64 n] w fun e w' => e = .returned (.int .i64 2) ∧ w = w' := by
  have hc : w.cell? ⟨g, 0, none⟩ = some (.slice (some ⟨cb, 0, none⟩) D.lines.length cap) := hd.cell 0
  have hf := hd.few
  clear hd
  unfold noPlace at h
  generalize D.lines.length = m at *
  by_cases h1 : line < 0
  · clear h
    go_enter Try.func41, Try.ntmps41
    go_wp2
    go_ret
    exact ⟨rfl, rfl⟩
  by_cases h2 : (m : Int) ≤ line
  · clear h
    go_enter Try.func41, Try.ntmps41
    go_wp2
    go_ret
    exact ⟨rfl, rfl⟩
  by_cases h3 : at_ < 0
  · clear h
    go_enter Try.func41, Try.ntmps41
    go_wp2
    go_ret
    exact ⟨rfl, rfl⟩
  have h4 : 64 - n < at_ := by omega
  clear h
  go_enter Try.func41, Try.ntmps41
  go_wp2
  go_ret
  exact ⟨rfl, rfl⟩
theorem nvm_there_yes (g cb cap : Nat) (D : Dev) (line at_ n : Int) (w : World) (hd : DevAt w g cb cap D) (hn : 0 ≤ n ∧ n ≤ 9223372036854775807) (h : ¬ noPlace D.lines.length line at_ n) :
    Calls Try.prog 41 #[.pointer (some ⟨g, 0, none⟩), .int .i64 line, .int .i64 at_, .int .i64 n] w fun e w' => e = .returned (.int .i64 0) ∧ w = w' := by
  have hc : w.cell? ⟨g, 0, none⟩ = some (.slice (some ⟨cb, 0, none⟩) D.lines.length cap) := hd.cell 0
  have hf := hd.few
  clear hd
  unfold noPlace at h
  generalize D.lines.length = m at *
  have h1 : 0 ≤ line := by omega
  have h2 : line < m := by omega
  have h3 : 0 ≤ at_ := by omega
  have h4 : at_ ≤ 64 - n := by omega
  clear h
  go_enter Try.func41, Try.ntmps41
  go_wp2
  go_ret
  exact ⟨rfl, rfl⟩
theorem nvm_Lines (g cb cap : Nat) (D : Dev) (w : World) (hd : DevAt w g cb cap D) :
    Calls Try.prog 78 #[.pointer (some ⟨g, 0, none⟩)] w fun e w' => e = .returned (.int .i64 D.lines.length) ∧ w = w' := by
  have hc : w.cell? ⟨g, 0, none⟩ = some (.slice (some ⟨cb, 0, none⟩) D.lines.length cap) := hd.cell 0
  clear hd
  generalize D.lines.length = m at *
  go_enter Try.func78, Try.ntmps78
  go_wp2
  go_ret
  exact ⟨rfl, rfl⟩
theorem nvm_Load_no (g cb cap : Nat) (D : Dev) (line : Int) (w : World) (hd : DevAt w g cb cap D) (h : noPlace D.lines.length line 0 0) :
    Calls Try.prog 21 #[.pointer (some ⟨g, 0, none⟩), .int .i64 line] w fun e w' => e = .returned (.tuple #[.slice none 0 0, .int .i64 2]) ∧ w = w' := by
  have HT := Lib.hid (nvm_there_no g cb cap D line 0 0 w hd (by omega) h)
  clear hd h
  go_enter Try.func21, Try.ntmps21
  go_wp2_with fail
  refine (HT.out).mono ?_
  rintro e w' ⟨rfl, rfl⟩
  go_wp2
  go_ret2
  exact ⟨rfl, rfl⟩
theorem nvm_Load (g cb cap : Nat) (D : Dev) (i : Nat) (x : Line) (hx : D.lines[i]? = some x) (w : World) (hd : DevAt w g cb cap D) :
    Calls Try.prog 21 #[.pointer (some ⟨g, 0, none⟩), .int .i64 i] w fun e w' => ∃ v, e = .returned (.tuple #[v, .int .i64 0]) ∧ MadeB w x.now v w' := by
  obtain ⟨hi, rfl⟩ := List.getElem?_eq_some_iff.1 hx
  have hc : w.cell? ⟨g, 0, none⟩ = some (.slice (some ⟨cb, 0, none⟩) D.lines.length cap) := hd.cell 0
  have hf := hd.few
  have HT := Lib.hid (nvm_there_yes g cb cap D i 0 0 w hd (by omega) (by unfold noPlace; omega))
  have hcl := clone_bytes _ 64 64 _ w (hd.now hi) (by omega)
  have HC := Lib.hid hcl
  clear hd hcl hx
  generalize (D.lines[i]).now = l at *
  generalize D.lines.length = m at *
  go_enter Try.func21, Try.ntmps21
  go_wp2_with fail
  refine (HT.out).mono ?_
  rintro e w' ⟨rfl, rfl⟩
  go_wp2_with fail
  refine (HC.out).mono ?_
  rintro e w1 ⟨_, rfl, A1, c1, rfl, m1, o1⟩
  have M1 := Lib.hid m1
  have O1 := Lib.hid o1
  clear m1 o1
  go_wp2
  go_ret2
  exact ⟨.slice A1 l.length c1, rfl, A1, c1, rfl, M1.out, O1.out⟩
theorem nvm_Durable_no (g cb cap : Nat) (D : Dev) (line : Int) (w : World) (hd : DevAt w g cb cap D) (h : noPlace D.lines.length line 0 0) :
    Calls Try.prog 22 #[.pointer (some ⟨g, 0, none⟩), .int .i64 line] w fun e w' => e = .returned (.tuple #[.slice none 0 0, .int .i64 2]) ∧ w = w' := by
  have HT := Lib.hid (nvm_there_no g cb cap D line 0 0 w hd (by omega) h)
  clear hd h
  go_enter Try.func22, Try.ntmps22
  go_wp2_with fail
  refine (HT.out).mono ?_
  rintro e w' ⟨rfl, rfl⟩
  go_wp2
  go_ret2
  exact ⟨rfl, rfl⟩
theorem nvm_Durable (g cb cap : Nat) (D : Dev) (i : Nat) (x : Line) (hx : D.lines[i]? = some x) (w : World) (hd : DevAt w g cb cap D) :
    Calls Try.prog 22 #[.pointer (some ⟨g, 0, none⟩), .int .i64 i] w fun e w' => ∃ v, e = .returned (.tuple #[v, .int .i64 0]) ∧ MadeB w x.kept v w' := by
  obtain ⟨hi, rfl⟩ := List.getElem?_eq_some_iff.1 hx
  have hc : w.cell? ⟨g, 0, none⟩ = some (.slice (some ⟨cb, 0, none⟩) D.lines.length cap) := hd.cell 0
  have hf := hd.few
  have HT := Lib.hid (nvm_there_yes g cb cap D i 0 0 w hd (by omega) (by unfold noPlace; omega))
  have hcl := clone_bytes _ 64 64 _ w (hd.kept hi) (by omega)
  have HC := Lib.hid hcl
  clear hd hcl hx
  generalize (D.lines[i]).kept = l at *
  generalize D.lines.length = m at *
  go_enter Try.func22, Try.ntmps22
  go_wp2_with fail
  refine (HT.out).mono ?_
  rintro e w' ⟨rfl, rfl⟩
  go_wp2_with fail
  refine (HC.out).mono ?_
  rintro e w1 ⟨_, rfl, A1, c1, rfl, m1, o1⟩
  have M1 := Lib.hid m1
  have O1 := Lib.hid o1
  clear m1 o1
  go_wp2
  go_ret2
  exact ⟨.slice A1 l.length c1, rfl, A1, c1, rfl, M1.out, O1.out⟩
theorem nvm_Store_no (g cb cap : Nat) (D : Dev) (line at_ : Int) (A : Option Addr) (n c : Nat) (w : World) (hd : DevAt w g cb cap D) (hn : n ≤ maxLen) (h : noPlace D.lines.length line at_ n) :
    Calls Try.prog 20 #[.pointer (some ⟨g, 0, none⟩), .int .i64 line, .int .i64 at_, .slice A n c] w fun e w' => e = .returned (.int .i64 2) ∧ w = w' := by
  unfold maxLen at hn
  have HT := Lib.hid (nvm_there_no g cb cap D line at_ n w hd (by omega) h)
  clear hd h
  go_enter Try.func20, Try.ntmps20
  go_wp2_with fail
  refine (HT.out).mono ?_
  rintro e w' ⟨rfl, rfl⟩
  go_wp2
  go_ret
  exact ⟨rfl, rfl⟩
/-- the device behind a store -/
def storeD (D : Dev) (i : Nat) (x : Line) (a : Nat) (l : List UInt8) : Dev := { D with lines := D.lines.set i { x with now := over x.now a l }, stores := wrap64 (D.stores + 1) }
theorem storeD_nil (D : Dev) (i a : Nat) (hi : i < D.lines.length) : (storeD D i (D.lines[i]) a []).lines = D.lines := by
  unfold storeD
  rw [over_nil]
  exact List.set_getElem_self hi
theorem over_cells (x : Line) (h : x.Ok) (a : Nat) (l : List UInt8) (hl : a + l.length ≤ 64) : cellsOf { x with now := over x.now a l } = (cellsOf x).take a ++ l.map B ++ (cellsOf x).drop (a + (l.map B).length) := by
  obtain ⟨h1, h2, h3⟩ := h
  unfold cellsOf over
  simp only [List.map_append, List.length_map, List.append_assoc, List.map_take, List.map_drop]
  rw [List.take_append_of_le_length (by simp; omega), List.drop_append_of_le_length (by simp; omega)]
theorem over_ok {x : Line} (h : x.Ok) {a : Nat} {l : List UInt8} (hl : a + l.length ≤ 64) : ({ x with now := over x.now a l } : Line).Ok :=
  ⟨by rw [over_length _ _ _ (by rw [h.1]; exact hl), h.1], h.2.1, h.2.2⟩
/-- the counter of stores has turned -/
theorem IsDev.count {tD tC : TypeId} {w : World} {g cb cap : Nat} {D D' : Dev} (h : IsDev tD tC w g cb cap D) (k : Nat) (z : Int) (hl : D'.lines = D.lines) (he : (headOf cb cap D).setIfInBounds k (.int .i64 z) = headOf cb cap D') :
    IsDev tD tC (w.setCell ⟨g, k, none⟩ (.int .i64 z)) g cb cap D' ∧ Only [g] w (w.setCell ⟨g, k, none⟩ (.int .i64 z)) := by
  have on : Only [g] w (w.setCell ⟨g, k, none⟩ (.int .i64 z)) := (Only.refl [g] w).setCell (p := ⟨g, k, none⟩) (.inl (by simp)) _
  obtain ⟨cs, hb, hp⟩ := h.body
  refine ⟨⟨?_, ⟨cs, hb.only on (by simpa using h.ne.symm), by rw [hl]; exact hp⟩, h.ne, by rw [hl]; exact h.ok, by rw [hl]; exact h.few, by rw [hl]; exact h.cap_le⟩, on⟩
  rw [← he]
  exact h.head.set k _
set_option maxHeartbeats 400000 in
theorem nvm_Store (g cb cap : Nat) (D : Dev) (i a : Nat) (x : Line) (hx : D.lines[i]? = some x) (A : Option Addr) (n c : Nat) (l : List UInt8) (w : World) (hd : DevAt w g cb cap D) (hl : Bs w A n l) (ha : a + n ≤ 64) :
    Calls Try.prog 20 #[.pointer (some ⟨g, 0, none⟩), .int .i64 i, .int .i64 a, .slice A n c] w fun e w' => e = .returned (.int .i64 0) ∧ DevAt w' g cb cap (storeD D i x a l) ∧ Only [g, cb] w w' := by
  obtain ⟨hi, rfl⟩ := List.getElem?_eq_some_iff.1 hx
  have hc : w.cell? ⟨g, 0, none⟩ = some (.slice (some ⟨cb, 0, none⟩) D.lines.length cap) := hd.cell 0
  have hf := hd.few
  have HT := Lib.hid (nvm_there_yes g cb cap D i a n w hd (by omega) (by unfold noPlace; omega))
  have HD := Lib.hid hd
  have HL := Lib.hid hl
  have HN := Lib.hid hl.len
  obtain ⟨cs, hb, hp⟩ := hd.body
  have hs := body_size hd.ok hp
  have hi2 : (i + 1) * 193 ≤ D.lines.length * 193 := Nat.mul_le_mul_right _ hi
  have HB := Lib.hid hb
  have HP := Lib.hid hp
  have HS := Lib.hid hs
  have hfit : i * 193 + a + (64 - a) ≤ cs.size := by omega
  clear hd hl hb hp hs hx hi2
  obtain ⟨i0, hi0, hz0, hz1, hz2⟩ := info_parts Try.byteInfo
  have hsd : storeD D i (D.lines[i]) a l = storeD D i (D.lines[i]) a l := rfl
  by_cases ha64 : a = 64
  · subst ha64
    have hn0 : n = 0 := by omega
    have hl0 : l = [] := List.eq_nil_of_length_eq_zero (by rw [HN.out]; exact hn0)
    have hsl := fun w => run_sliceAt_end (P := Try.prog) Try.underlying92 i0 hi0 cb (i * 193) w
    have hx0 : 0 + 0 ≤ cs.size := by omega
    have H0 := Lib.hid hn0
    have HL0 := Lib.hid hl0
    have hB := HB.out
    have hL := HL.out
    have hc1 := HD.out.cell 1
    have hf1 := HD.out.frozen1 1
    have hcnt := IsDev.count (D' := storeD D i (D.lines[i]) 64 l) HD.out 1 (wrap64 (D.stores + 1)) (by
      rw [HL0.out]
      exact storeD_nil D i 64 hi) (by
      unfold storeD headOf
      simp)
    have HCN := Lib.hid hcnt
    clear hn0 hl0 hsd hi0 hz0 hz1 hz2 hcnt
    go_enter Try.func20, Try.ntmps20
    go_wp2_with fail
    refine (HT.out).mono ?_
    rintro e w' ⟨rfl, rfl⟩
    go_wp2_with ((with_reducible show wpList _ _ _ (Oper.mk (some 29) _ _ _ _ _ :: _) _ _); refine wpList_copy_nothing rfl (.tmp 27) (.tmp 28) 48 48 rfl 5 Try.underlying48 byteSizeN _ _ 0 0 n c rfl rfl (by rw [H0.out]; rfl) ?_)
    refine (int64_Add g 1 D.stores w hc1 hf1).mono ?_
    rintro e w3 ⟨rfl, rfl⟩
    go_wp2
    go_ret
    exact ⟨rfl, HCN.out.1, HCN.out.2.mono (by simp)⟩
  · have ha1 : a < 64 := by omega
    have hsl := fun w => run_sliceAt_low (P := Try.prog) Try.underlying92 i0 hi0 hz1 cb (i * 193) a ha1 w
    have hsp : FuMem.splice cs (i * 193 + a) ((l.map B).take (64 - a)) = FuMem.splice cs (i * 193 + a) (l.map B) := by
      rw [List.take_of_length_le (by rw [List.length_map, HN.out]; omega)]
    have H1 := Lib.hid hsp
    have hB := HB.out
    have hL := HL.out
    clear ha64 hi0 hz0 hz1 hz2 hsd hsp
    go_enter Try.func20, Try.ntmps20
    go_wp2_with fail
    refine (HT.out).mono ?_
    rintro e w' ⟨rfl, rfl⟩
    go_wp2_with ((with_reducible show wpList _ _ _ (Oper.mk (some 29) _ _ _ _ _ :: _) _ _); refine wpList_copy_blk rfl (.tmp 27) (.tmp 28) 48 48 rfl 5 Try.underlying48 byteSizeN cb (i * 193 + a) (64 - a) (64 - a) A n c rfl rfl _ cs hB hfit (l.map B) hL one_B ?_; intro w2 hb2 ho2 hs2; rw [H1.out] at hb2)
    have hd2 : DevAt w2 g cb cap { D with lines := D.lines.set i { D.lines[i] with now := over (D.lines[i]).now a l } } :=
      HD.out.write hi (o := a) (vs := l.map B) (by rw [List.length_map, HN.out]; omega) (over_cells _ (HD.out.ok.get hi) a l (by rw [HN.out]; exact ha)) (over_ok (HD.out.ok.get hi) (by rw [HN.out]; exact ha)) cs HP.out hb2 ho2
    have hc1 := hd2.cell 1
    have hf1 := hd2.frozen1 1
    have hcnt := IsDev.count (D' := storeD D i (D.lines[i]) a l) hd2 1 (wrap64 (D.stores + 1)) rfl (by unfold storeD headOf; simp)
    have HCN := Lib.hid hcnt
    have HO2 := Lib.hid ho2
    clear hcnt hd2 hb2 ho2
    refine (int64_Add g 1 D.stores w2 hc1 hf1).mono ?_
    rintro e w3 ⟨rfl, rfl⟩
    go_wp2
    go_ret
    exact ⟨rfl, HCN.out.1, (HO2.out.mono (by simp)).trans HCN.out.2 (by simp)⟩
end Go.Proofs.Ytecdalmnndalgaa
/- The contracts of package nvm, second part: flush, back, fence. -/
namespace Go.Proofs.Ytecdalmnndalgaa
open Go.RowKit Go.Proofs.FuMem Go.Proofs.FuNvm Go.Proofs.FuCode
set_option maxRecDepth 100000
theorem cells_now (x : Line) (h : x.Ok) (l : List UInt8) (hl : l.length = 64) : cellsOf { x with now := l } = (cellsOf x).take 0 ++ l.map B ++ (cellsOf x).drop (0 + (l.map B).length) := by
  obtain ⟨h1, _, _⟩ := h
  have e : (cellsOf x).drop (0 + (l.map B).length) = x.kept.map B ++ (x.way.map B ++ [.bool x.sent]) := by
    unfold cellsOf
    rw [List.append_assoc, List.append_assoc]
    exact List.drop_left' (by simp [h1, hl])
  rw [e]
  simp [cellsOf]
theorem cells_kept (x : Line) (h : x.Ok) (l : List UInt8) (hl : l.length = 64) : cellsOf { x with kept := l } = (cellsOf x).take 64 ++ l.map B ++ (cellsOf x).drop (64 + (l.map B).length) := by
  obtain ⟨h1, h2, _⟩ := h
  have e : (cellsOf x).drop (64 + (l.map B).length) = x.way.map B ++ [.bool x.sent] := by
    unfold cellsOf
    rw [List.append_assoc]
    exact List.drop_left' (by simp [h1, h2, hl])
  have e2 : (cellsOf x).take 64 = x.now.map B := by
    unfold cellsOf
    rw [List.append_assoc, List.append_assoc]
    exact List.take_left' (by simp [h1])
  rw [e, e2]
  simp [cellsOf]
theorem cells_way (x : Line) (h : x.Ok) (l : List UInt8) (hl : l.length = 64) : cellsOf { x with way := l } = (cellsOf x).take 128 ++ l.map B ++ (cellsOf x).drop (128 + (l.map B).length) := by
  obtain ⟨h1, h2, h3⟩ := h
  have e : (cellsOf x).drop (128 + (l.map B).length) = [.bool x.sent] := by
    unfold cellsOf
    exact List.drop_left' (by simp [h1, h2, h3, hl])
  have e2 : (cellsOf x).take 128 = x.now.map B ++ x.kept.map B := by
    unfold cellsOf
    rw [List.append_assoc]
    exact List.take_left' (by simp [h1, h2])
  rw [e, e2]
  simp [cellsOf]
theorem cells_sent (x : Line) (h : x.Ok) (b : Bool) : cellsOf { x with sent := b } = (cellsOf x).take 192 ++ [.bool b] ++ (cellsOf x).drop (192 + [Value.bool b].length) := by
  have hl := cellsOf_length h
  obtain ⟨h1, h2, h3⟩ := h
  rw [List.drop_eq_nil_of_le (by simp; omega)]
  unfold cellsOf
  rw [List.take_append_of_le_length (by simp [h1, h2, h3]), List.take_of_length_le (by simp [h1, h2, h3])]
  simp
section
variable {tD tC : TypeId} {w w' : World} {g cb cap : Nat} {D : Dev}
theorem set_splice (cs : Array Value) (k : Nat) (v : Value) (h : k < cs.size) : cs.setIfInBounds k v = FuMem.splice cs k [v] := by
  apply Array.ext'
  unfold FuMem.splice
  rw [Array.toList_setIfInBounds, List.set_eq_take_append_cons_drop, if_pos (by simpa using h)]
  simp
theorem IsDev.setSent (h : IsDev tD tC w g cb cap D) {i : Nat} (hi : i < D.lines.length) (b : Bool) :
    IsDev tD tC (w.setCell ⟨cb, i * 193 + 192, none⟩ (.bool b)) g cb cap { D with lines := D.lines.set i { D.lines[i] with sent := b } } ∧ Only [cb] w (w.setCell ⟨cb, i * 193 + 192, none⟩ (.bool b)) := by
  have on : Only [cb] w (w.setCell ⟨cb, i * 193 + 192, none⟩ (.bool b)) := (Only.refl [cb] w).setCell (p := ⟨cb, i * 193 + 192, none⟩) (.inl (by simp)) _
  obtain ⟨cs, hb, hp⟩ := h.body
  have hs := body_size h.ok hp
  have hi2 : (i + 1) * 193 ≤ D.lines.length * 193 := Nat.mul_le_mul_right _ hi
  have hb2 := hb.set (i * 193 + 192) (.bool b)
  rw [set_splice cs _ _ (by omega)] at hb2
  exact ⟨h.write hi (o := 192) (vs := [.bool b]) (by simp) (cells_sent _ (h.ok.get hi) b) (h.ok.get hi) cs hp hb2 on, on⟩
end
def flushL (x : Line) : Line := { x with way := x.now, sent := true }
def backL (x : Line) : Line := { x with kept := x.now, sent := false }
def flushD (D : Dev) (i : Nat) (x : Line) : Dev := { D with lines := D.lines.set i (flushL x), flushes := wrap64 (D.flushes + 1) }
def backD (D : Dev) (i : Nat) (x : Line) : Dev := { D with lines := D.lines.set i (backL x), backs := wrap64 (D.backs + 1) }
theorem lineSize : (Try.prog.info? 92).map (·.size) = some 64 := by kernel_rfl
theorem nvm_Flush_no (g cb cap : Nat) (D : Dev) (line : Int) (w : World) (hd : DevAt w g cb cap D) (h : noPlace D.lines.length line 0 0) :
    Calls Try.prog 63 #[.pointer (some ⟨g, 0, none⟩), .int .i64 line] w fun e w' => e = .returned (.int .i64 2) ∧ w = w' := by
  have HT := Lib.hid (nvm_there_no g cb cap D line 0 0 w hd (by omega) h)
  clear hd h
  go_enter Try.func63, Try.ntmps63
  go_wp2_with fail
  refine (HT.out).mono ?_
  rintro e w' ⟨rfl, rfl⟩
  go_wp2
  go_ret
  exact ⟨rfl, rfl⟩
theorem nvm_Back_no (g cb cap : Nat) (D : Dev) (line : Int) (w : World) (hd : DevAt w g cb cap D) (h : noPlace D.lines.length line 0 0) :
    Calls Try.prog 32 #[.pointer (some ⟨g, 0, none⟩), .int .i64 line] w fun e w' => e = .returned (.int .i64 2) ∧ w = w' := by
  have HT := Lib.hid (nvm_there_no g cb cap D line 0 0 w hd (by omega) h)
  clear hd h
  go_enter Try.func32, Try.ntmps32
  go_wp2_with fail
  refine (HT.out).mono ?_
  rintro e w' ⟨rfl, rfl⟩
  go_wp2
  go_ret
  exact ⟨rfl, rfl⟩
set_option maxHeartbeats 400000 in
theorem nvm_Flush (g cb cap : Nat) (D : Dev) (i : Nat) (x : Line) (hx : D.lines[i]? = some x) (w : World) (hd : DevAt w g cb cap D) :
    Calls Try.prog 63 #[.pointer (some ⟨g, 0, none⟩), .int .i64 i] w fun e w' => e = .returned (.int .i64 0) ∧ DevAt w' g cb cap (flushD D i x) ∧ Only [g, cb] w w' := by
  obtain ⟨hi, rfl⟩ := List.getElem?_eq_some_iff.1 hx
  have hc : w.cell? ⟨g, 0, none⟩ = some (.slice (some ⟨cb, 0, none⟩) D.lines.length cap) := hd.cell 0
  have hf := hd.few
  have HT := Lib.hid (nvm_there_yes g cb cap D i 0 0 w hd (by omega) (by unfold noPlace; omega))
  have HD := Lib.hid hd
  have hok := hd.ok.get hi
  have hlen := hok.1
  have hnow := hd.now hi
  rw [← hlen] at hnow
  have hsz : (Try.prog.info? 92).map (·.size) = some (D.lines[i]).now.length := by rw [hlen]; exact lineSize
  have hsz2 : (Try.prog.info? 92).map (·.size) = some ((D.lines[i]).now.map B).toArray.size := by rw [List.size_toArray, List.length_map, hlen]; exact lineSize
  obtain ⟨cs, hb, hp⟩ := hd.body
  have hs := body_size hd.ok hp
  have hi2 : (i + 1) * 193 ≤ D.lines.length * 193 := Nat.mul_le_mul_right _ hi
  have hfit : i * 193 + 128 + ((D.lines[i]).now.map B).toArray.size ≤ cs.size := by rw [List.size_toArray, List.length_map, hlen]; omega
  have HOK := Lib.hid hok
  have HLEN := Lib.hid hlen
  have HS1 := Lib.hid hsz
  have HS2 := Lib.hid hsz2
  have HP := Lib.hid hp
  clear hok hlen hsz hsz2 hp hs hi2 hd hx
  go_enter Try.func63, Try.ntmps63
  go_wp2_with fail
  refine (HT.out).mono ?_
  rintro e w' ⟨rfl, rfl⟩
  go_wp2_with (first
    | ((with_reducible show wpList _ _ _ (Oper.mk (some 24) _ _ _ _ _ :: _) _ _); refine wpList_load_arr rfl 92 (.tmp 23) rfl cb (i * 193) rfl (D.lines[i]).now hnow 64 5 Try.underlying92 HS1.out ?_)
    | ((with_reducible show wpList _ _ _ (Oper.mk none _ _ _ _ _ :: _) _ _); refine wpList_store_blk rfl 92 (.tmp 26) (.tmp 24) rfl cb (i * 193 + 128) ((D.lines[i]).now.map B).toArray rfl rfl 94 cs hb hfit HS2.out (all_B _) ?_; intro w2 hb2 ho2 hs2;
        have hd2 : DevAt w2 g cb cap { D with lines := D.lines.set i { D.lines[i] with way := (D.lines[i]).now } } := HD.out.write hi (o := 128) (vs := (D.lines[i]).now.map B) (by rw [List.length_map, HLEN.out]; omega) (cells_way _ HOK.out _ HLEN.out) ⟨HOK.out.1, HOK.out.2.1, HOK.out.1⟩ cs HP.out hb2 ho2;
        have hc2 := hd2.cell 0; have hsc := hd2.sentCell (i := i) (by simpa using hi); have hfz := hd2.frozen2 (i * 193 + 192)))
  have hsw := IsDev.setSent hd2 (i := i) (by simpa using hi) true
  have hl2 : ({ { D with lines := D.lines.set i { D.lines[i] with way := (D.lines[i]).now } } with lines := (D.lines.set i { D.lines[i] with way := (D.lines[i]).now }).set i { ((D.lines.set i { D.lines[i] with way := (D.lines[i]).now })[i]'(by simpa using hi)) with sent := true } } : Dev) = { D with lines := D.lines.set i (flushL (D.lines[i])) } := by
    simp [flushL]
  have hd3 := hsw.1
  rw [hl2] at hd3
  have hc3 := hd3.cell 2
  have hf3 := hd3.frozen1 2
  have hcnt := IsDev.count (D' := flushD D i (D.lines[i])) hd3 2 (wrap64 (D.flushes + 1)) rfl (by unfold flushD headOf; simp)
  have HCN := Lib.hid hcnt
  have HO2 := Lib.hid (ho2.trans hsw.2 (by simp))
  clear hcnt hd2 hb2 ho2 hc2 hsc hfz hsw hl2 hd3 hb
  refine (int64_Add g 2 D.flushes _ hc3 hf3).mono ?_
  rintro e w3 ⟨rfl, rfl⟩
  go_wp2
  go_ret
  exact ⟨rfl, HCN.out.1, (HO2.out.mono (by simp)).trans HCN.out.2 (by simp)⟩
set_option maxHeartbeats 400000 in
theorem nvm_Back (g cb cap : Nat) (D : Dev) (i : Nat) (x : Line) (hx : D.lines[i]? = some x) (w : World) (hd : DevAt w g cb cap D) :
    Calls Try.prog 32 #[.pointer (some ⟨g, 0, none⟩), .int .i64 i] w fun e w' => e = .returned (.int .i64 0) ∧ DevAt w' g cb cap (backD D i x) ∧ Only [g, cb] w w' := by
  obtain ⟨hi, rfl⟩ := List.getElem?_eq_some_iff.1 hx
  have hc : w.cell? ⟨g, 0, none⟩ = some (.slice (some ⟨cb, 0, none⟩) D.lines.length cap) := hd.cell 0
  have hf := hd.few
  have HT := Lib.hid (nvm_there_yes g cb cap D i 0 0 w hd (by omega) (by unfold noPlace; omega))
  have HD := Lib.hid hd
  have hok := hd.ok.get hi
  have hlen := hok.1
  have hnow := hd.now hi
  rw [← hlen] at hnow
  have hsz : (Try.prog.info? 92).map (·.size) = some (D.lines[i]).now.length := by rw [hlen]; exact lineSize
  have hsz2 : (Try.prog.info? 92).map (·.size) = some ((D.lines[i]).now.map B).toArray.size := by rw [List.size_toArray, List.length_map, hlen]; exact lineSize
  obtain ⟨cs, hb, hp⟩ := hd.body
  have hs := body_size hd.ok hp
  have hi2 : (i + 1) * 193 ≤ D.lines.length * 193 := Nat.mul_le_mul_right _ hi
  have hfit : i * 193 + 64 + ((D.lines[i]).now.map B).toArray.size ≤ cs.size := by rw [List.size_toArray, List.length_map, hlen]; omega
  have HOK := Lib.hid hok
  have HLEN := Lib.hid hlen
  have HS1 := Lib.hid hsz
  have HS2 := Lib.hid hsz2
  have HP := Lib.hid hp
  clear hok hlen hsz hsz2 hp hs hi2 hd hx
  go_enter Try.func32, Try.ntmps32
  go_wp2_with fail
  refine (HT.out).mono ?_
  rintro e w' ⟨rfl, rfl⟩
  go_wp2_with (first
    | ((with_reducible show wpList _ _ _ (Oper.mk (some 24) _ _ _ _ _ :: _) _ _); refine wpList_load_arr rfl 92 (.tmp 23) rfl cb (i * 193) rfl (D.lines[i]).now hnow 64 5 Try.underlying92 HS1.out ?_)
    | ((with_reducible show wpList _ _ _ (Oper.mk none _ _ _ _ _ :: _) _ _); refine wpList_store_blk rfl 92 (.tmp 26) (.tmp 24) rfl cb (i * 193 + 64) ((D.lines[i]).now.map B).toArray rfl rfl 94 cs hb hfit HS2.out (all_B _) ?_; intro w2 hb2 ho2 hs2;
        have hd2 : DevAt w2 g cb cap { D with lines := D.lines.set i { D.lines[i] with kept := (D.lines[i]).now } } := HD.out.write hi (o := 64) (vs := (D.lines[i]).now.map B) (by rw [List.length_map, HLEN.out]; omega) (cells_kept _ HOK.out _ HLEN.out) ⟨HOK.out.1, HOK.out.1, HOK.out.2.2⟩ cs HP.out hb2 ho2;
        have hc2 := hd2.cell 0; have hsc := hd2.sentCell (i := i) (by simpa using hi); have hfz := hd2.frozen2 (i * 193 + 192)))
  have hsw := IsDev.setSent hd2 (i := i) (by simpa using hi) false
  have hl2 : ({ { D with lines := D.lines.set i { D.lines[i] with kept := (D.lines[i]).now } } with lines := (D.lines.set i { D.lines[i] with kept := (D.lines[i]).now }).set i { ((D.lines.set i { D.lines[i] with kept := (D.lines[i]).now })[i]'(by simpa using hi)) with sent := false } } : Dev) = { D with lines := D.lines.set i (backL (D.lines[i])) } := by
    simp [backL]
  have hd3 := hsw.1
  rw [hl2] at hd3
  have hc3 := hd3.cell 4
  have hf3 := hd3.frozen1 4
  have hcnt := IsDev.count (D' := backD D i (D.lines[i])) hd3 4 (wrap64 (D.backs + 1)) rfl (by unfold backD headOf; simp)
  have HCN := Lib.hid hcnt
  have HO2 := Lib.hid (ho2.trans hsw.2 (by simp))
  clear hcnt hd2 hb2 ho2 hc2 hsc hfz hsw hl2 hd3 hb
  refine (int64_Add g 4 D.backs _ hc3 hf3).mono ?_
  rintro e w3 ⟨rfl, rfl⟩
  go_wp2
  go_ret
  exact ⟨rfl, HCN.out.1, (HO2.out.mono (by simp)).trans HCN.out.2 (by simp)⟩
end Go.Proofs.Ytecdalmnndalgaa
/- The contracts of package nvm, third part: the fence. -/
namespace Go.Proofs.Ytecdalmnndalgaa
open Go.RowKit Go.Proofs.FuMem Go.Proofs.FuNvm Go.Proofs.FuCode
set_option maxRecDepth 100000
/-- the first i lines have turned -/
def upTo (f : Nat → Line → Line) (L : List Line) (i : Nat) : List Line := L.mapIdx fun j x => if j < i then f j x else x
theorem upTo_length (f : Nat → Line → Line) (L : List Line) (i : Nat) : (upTo f L i).length = L.length := by simp [upTo]
theorem upTo_zero (f : Nat → Line → Line) (L : List Line) : upTo f L 0 = L := by
  apply List.ext_getElem
  · simp [upTo]
  · intro i h1 h2
    simp [upTo]
theorem upTo_all (f : Nat → Line → Line) (L : List Line) : upTo f L L.length = L.mapIdx f := by
  apply List.ext_getElem
  · simp [upTo]
  · intro i h1 h2
    simp only [upTo_length] at h1
    simp [upTo, h1]
theorem upTo_get (f : Nat → Line → Line) (L : List Line) (i : Nat) (hi : i < L.length) : (upTo f L i)[i]? = some L[i] := by
  simp [upTo, List.getElem?_eq_getElem hi]
theorem upTo_succ (f : Nat → Line → Line) (L : List Line) (i : Nat) (hi : i < L.length) : (upTo f L i).set i (f i L[i]) = upTo f L (i + 1) := by
  apply List.ext_getElem
  · simp [upTo]
  · intro j h1 h2
    simp only [List.getElem_set, upTo, List.getElem_mapIdx]
    by_cases e : i = j
    · subst e
      simp
    · rw [if_neg e]
      by_cases h : j < i
      · rw [if_pos h, if_pos (by omega)]
      · rw [if_neg h, if_neg (by omega)]
theorem upTo_keep (f : Nat → Line → Line) (L : List Line) (i : Nat) (hi : i < L.length) (h : f i L[i] = L[i]) : upTo f L i = upTo f L (i + 1) := by
  rw [← upTo_succ f L i hi, h]
  have := upTo_get f L i hi
  obtain ⟨h1, h2⟩ := List.getElem?_eq_some_iff.1 this
  rw [← h2]
  exact (List.set_getElem_self h1).symm
def fenceL (x : Line) : Line := if x.sent = true then { x with kept := x.way, sent := false } else x
def fenceD (D : Dev) : Dev := { D with lines := D.lines.map fenceL, fences := wrap64 (D.fences + 1) }
theorem mapIdx_map (f : Line → Line) (L : List Line) : L.mapIdx (fun _ x => f x) = L.map f := by
  apply List.ext_getElem
  · simp
  · intro i h1 h2
    simp
set_option maxHeartbeats 1000000 in
theorem nvm_Fence (g cb cap : Nat) (D : Dev) (w : World) (hd : DevAt w g cb cap D) :
    Calls Try.prog 64 #[.pointer (some ⟨g, 0, none⟩)] w fun e w' => e = .returned (.int .i64 0) ∧ DevAt w' g cb cap (fenceD D) ∧ Only [g, cb] w w' := by
  have hc : w.cell? ⟨g, 0, none⟩ = some (.slice (some ⟨cb, 0, none⟩) D.lines.length cap) := hd.cell 0
  have hf := hd.few
  have HD := Lib.hid hd
  clear hd
  obtain ⟨m, hm⟩ : ∃ m, m = D.lines.length := ⟨_, rfl⟩
  rw [← hm] at hc hf
  have HM := Lib.hid hm
  clear hm
  go_enter Try.func64, Try.ntmps64
  go_wp2
  go_loopw [3, 4, 12] (fun _ _ i wr => ∃ k : Nat, k ≤ m ∧ i = .int .i64 k ∧ DevAt wr g cb cap { D with lines := upTo (fun _ x => fenceL x) D.lines k } ∧ Only [g, cb] w wr) (fun _ _ i _ => m - (intOf i).toNat)
  case atStart => exact ⟨0, Nat.zero_le _, rfl, by rw [upTo_zero]; exact HD.out, Only.refl _ _⟩
  case round =>
    obtain ⟨k, hk, rfl, hd, on⟩ := hrel
    have hcr := hd.cell 0
    have hcr0 : wr.cell? ⟨g, 0, none⟩ = some (.slice (some ⟨cb, 0, none⟩) m cap) := by
      rw [hcr]
      simp [headOf, upTo_length, HM.out]
    clear hcr
    by_cases hlt : k < m
    · have hkl : k < D.lines.length := by rw [← HM.out]; exact hlt
      have hkl2 : k < (upTo (fun _ x => fenceL x) D.lines k).length := by rw [upTo_length]; exact hkl
      obtain ⟨hq1, hq2⟩ := List.getElem?_eq_some_iff.1 (upTo_get (fun _ x => fenceL x) D.lines k hkl)
      have hsc := hd.sentCell (i := k) hkl2
      simp only [hq2] at hsc
      by_cases hsent : (D.lines[k]).sent = true
      · rw [hsent] at hsc
        have hok := HD.out.ok.get hkl
        have hlen := hok.2.2
        have hway := hd.way (i := k) hkl2
        simp only [hq2] at hway
        rw [← hlen] at hway
        have hsz : (Try.prog.info? 92).map (·.size) = some (D.lines[k]).way.length := by rw [hlen]; exact lineSize
        have hsz2 : (Try.prog.info? 92).map (·.size) = some ((D.lines[k]).way.map B).toArray.size := by rw [List.size_toArray, List.length_map, hlen]; exact lineSize
        obtain ⟨cs, hb, hp⟩ := hd.body
        have hs := body_size hd.ok hp
        have hi2 : (k + 1) * 193 ≤ (upTo (fun _ x => fenceL x) D.lines k).length * 193 := Nat.mul_le_mul_right _ hkl2
        have hfit : k * 193 + 64 + ((D.lines[k]).way.map B).toArray.size ≤ cs.size := by rw [List.size_toArray, List.length_map, hlen]; simp only at hs; omega
        have hsucc := upTo_succ (fun _ x => fenceL x) D.lines k hkl
        have hfl : fenceL (D.lines[k]) = { D.lines[k] with kept := (D.lines[k]).way, sent := false } := by unfold fenceL; rw [if_pos hsent]
        have HOK := Lib.hid hok
        have HLEN := Lib.hid hlen
        have HS1 := Lib.hid hsz
        have HS2 := Lib.hid hsz2
        have HP := Lib.hid hp
        have HDR := Lib.hid hd
        have ON := Lib.hid on
        have HQ := Lib.hid hq2
        have HSU := Lib.hid hsucc
        have HFL := Lib.hid hfl
        clear hok hlen hsz hsz2 hp hs hi2 hd on hq2 hsucc hfl hsent
        go_wp2_with (first
          | ((with_reducible show wpList _ _ _ (Oper.mk (some 30) _ _ _ _ _ :: _) _ _); refine wpList_load_arr rfl 92 (.tmp 29) rfl cb (k * 193 + 128) rfl (D.lines[k]).way hway 64 5 Try.underlying92 HS1.out ?_)
          | ((with_reducible show wpList _ _ _ (Oper.mk none _ _ _ _ _ :: _) _ _); refine wpList_store_blk rfl 92 (.tmp 32) (.tmp 30) rfl cb (k * 193 + 64) ((D.lines[k]).way.map B).toArray rfl rfl 94 cs hb hfit HS2.out (all_B _) ?_; intro w2 hb2 ho2 hs2;
              have hd2 := HDR.out.write hkl2 (o := 64) (vs := (D.lines[k]).way.map B) (y := { D.lines[k] with kept := (D.lines[k]).way }) (by rw [List.length_map, HLEN.out]; omega) (by rw [show ((upTo (fun _ x => fenceL x) D.lines k)[k]'hkl2) = D.lines[k] from HQ.out]; exact cells_kept _ HOK.out _ HLEN.out) ⟨HOK.out.1, HOK.out.2.2, HOK.out.2.2⟩ cs HP.out hb2 ho2;
              have hsc := hd2.sentCell (i := k) (by simpa using hkl2); have hfz := hd2.frozen2 (k * 193 + 192); simp only [List.getElem_set_self] at hsc))
        have hsw := IsDev.setSent hd2 (i := k) (by simpa using hkl2) false
        have he : ∀ D' : Dev, D' = { D with lines := upTo (fun _ x => fenceL x) D.lines (k + 1) } → DevAt (w2.setCell ⟨cb, k * 193 + 192, none⟩ (.bool false)) g cb cap D' → DevAt (w2.setCell ⟨cb, k * 193 + 192, none⟩ (.bool false)) g cb cap { D with lines := upTo (fun _ x => fenceL x) D.lines (k + 1) } := by
          rintro D' rfl h
          exact h
        have hd3 := he _ (by
          rw [← HSU.out, HFL.out]
          simp) hsw.1
        have HD3 := Lib.hid hd3
        have ON3 := Lib.hid (ON.out.trans (ho2.trans hsw.2 (T := [cb]) (by simp)) (by simp))
        clear hd3 he hsw hd2 hb2 ho2 hb hway
        go_roundw
        case rel => exact ⟨k + 1, by omega, by go_num, HD3.out, ON3.out⟩
        case measure => simp [intOf]; omega
      · have hs0 : (D.lines[k]).sent = false := by simpa using hsent
        rw [hs0] at hsc
        have hkeep := upTo_keep (fun _ x => fenceL x) D.lines k hkl (by unfold fenceL; rw [if_neg hsent])
        rw [hkeep] at hd
        have HD2 := Lib.hid hd
        have ON := Lib.hid on
        clear hd on hkeep hsent hs0 hq2
        go_wp2
        go_roundw
        case rel => exact ⟨k + 1, by omega, by go_num, HD2.out, ON.out⟩
        case measure => simp [intOf]; omega
    · obtain rfl : k = m := by omega
      have hall : upTo (fun _ x => fenceL x) D.lines k = D.lines.map fenceL := by rw [HM.out, upTo_all, mapIdx_map]
      rw [hall] at hd
      have hc3 := hd.cell 3
      have hf3 := hd.frozen1 3
      have hcnt := IsDev.count (D' := fenceD D) hd 3 (wrap64 (D.fences + 1)) rfl (by unfold fenceD headOf; simp)
      have HCN := Lib.hid hcnt
      have ON := Lib.hid on
      clear hd on hall hcnt
      go_wp2_with fail
      refine (int64_Add g 3 D.fences _ hc3 hf3).mono ?_
      rintro e w3 ⟨rfl, rfl⟩
      go_wp2
      go_ret
      exact ⟨rfl, HCN.out.1, ON.out.trans HCN.out.2 (by simp)⟩
end Go.Proofs.Ytecdalmnndalgaa
