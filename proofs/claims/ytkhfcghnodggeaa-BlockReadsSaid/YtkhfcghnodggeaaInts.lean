/- Slices of ints: words, and the contracts of what the statements share on them. -/
import Derived.Test.YtkhfcghnodggeaaLend
import Derived.Test.YtkhfcghnodggeaaMemB
import Derived.Deep.QuietTactic
import Derived.BigQuiet
import Derived.IntWalk
import Derived.WalkSpells
namespace Go.Proofs.FuMem
open Go.RowKit
set_option maxRecDepth 100000
/-- the slice holds these ints -/
def Is (w : World) (A : Option Addr) (n : Nat) (l : List Int) : Prop := Sl w A n (l.map (.int .i64))
section
variable {w w' : World} {S : List Nat} {A : Option Addr} {n c : Nat} {l : List Int} {e : TypeId} {base g : Nat}
theorem Is.len (h : Is w A n l) : l.length = n := by simpa [Is, Sl] using h.1
theorem Is.at_ (h : Is w A n l) (hn : 0 < n) : ∃ b off, A = some ⟨b, off, none⟩ ∧ ∀ k (hk : k < l.length), w.cell? ⟨b, off + k, none⟩ = some (.int .i64 l[k]) := by
  obtain ⟨b, off, e, hc⟩ := Sl.at_ h hn
  exact ⟨b, off, e, fun k hk => by rw [hc k (by simpa using hk), List.getElem_map]⟩
theorem Is.nil (w : World) (A : Option Addr) : Is w A 0 [] := Sl.nil w A
theorem Is.only (h : Is w A n l) (ho : Only S w w') (hs : ∀ b off s, A = some ⟨b, off, s⟩ → b ∉ S) : Is w' A n l := Sl.only h ho hs
theorem Is.only0 (h : Is w A n l) (ho : Only [] w w') : Is w' A n l := Sl.only0 h ho
theorem one_I : ∀ u ∈ l.map (Value.int .i64), u.oneCell' = true := by
  intro u hu
  obtain ⟨x, _, rfl⟩ := List.mem_map.1 hu
  rfl
theorem is_own (h : w.ownsRow base e 1 (.slice A n c) n (l.map (.int .i64))) : Is w A n l := Sl.of_own h
/-- a row of ints of the call's own, with its block -/
def OwnI (e : TypeId) (w : World) (base g n c : Nat) (l : List Int) : Prop := w.ownsRow base e 1 (.slice (some ⟨g, 0, none⟩) n c) n (l.map (.int .i64))
theorem OwnI.of {A : Option Addr} (h : w.ownsRow base e 1 (.slice A n c) n (l.map (.int .i64))) (hn : 0 < n) : ∃ g, A = some ⟨g, 0, none⟩ ∧ base ≤ g ∧ g < w.heap.size ∧ OwnI e w base g n c l := by
  obtain ⟨g, c2, he, hbg, hgl⟩ := h.form hn
  cases he
  exact ⟨g, rfl, hbg, hgl, h⟩
theorem OwnI.len (h : OwnI e w base g n c l) : l.length = n := by simpa using h.1
theorem OwnI.is (h : OwnI e w base g n c l) : Is w (some ⟨g, 0, none⟩) n l := Sl.of_own h
theorem OwnI.cell (h : OwnI e w base g n c l) (k : Nat) (hk : k < n) : w.cell? ⟨g, k, none⟩ = some (.int .i64 (l.getD k 0)) := by
  have hl := h.len
  have := World.ownsRow.cellAt h k (by omega)
  rw [this, List.getElem?_map, List.getElem?_eq_getElem (by omega)]
  simp [List.getD, List.getElem?_eq_getElem (show k < l.length by omega)]
theorem OwnI.frozen (h : OwnI e w base g n c l) (k : Nat) : w.frozen? ⟨g, k, none⟩ = false := World.ownsRow.frozenAt h k
theorem OwnI.set (h : OwnI e w base g n c l) (k : Nat) (x : Int) : OwnI e (w.setCell ⟨g, k, none⟩ (.int .i64 x)) base g n c (l.set k x) := by
  have := (World.ownsRow.stored h k (.int .i64 x)).1
  unfold OwnI
  rw [List.map_set]
  exact this
theorem OwnI.only (h : OwnI e w base g n c l) (ho : Only S w w') (hs : g ∉ S) : OwnI e w' base g n c l :=
  own_only h ho (by intro k hk; simp [Value.ownBlock] at hk; subst hk; exact hs)
end
theorem cell_new1 (w : World) (t : TypeId) (v : Value) : Sl (w.alloc (.cells #[v] t)) (some ⟨w.heap.size, 0, none⟩) 1 [v] := Sl.of_blk (Blk.new w t #[v]) 0 rfl (by simp)
theorem ints_new1 (k : IntKind) (z : Int) : ∀ u ∈ [Value.int k z], u.oneCell' = true := by
  intro u hu
  rw [List.mem_singleton] at hu
  subst hu
  rfl
theorem Only.drewN0 (w : World) (n : Nat) : Only [] w (w.drewN n) := (Only.refl _ _).drewN n
end Go.Proofs.FuMem
namespace Go.Proofs.Ytkhfcghnodggeaa
open Go.RowKit Go.Proofs.FuMem
theorem Try.intInfo : (Try.prog.info? 3).map (fun i => (i.zero, i.size, i.bytes)) = some (some (.int .i64 0), 1, 8) := by kernel_rfl
/-- what a function hands back that makes ints of its own -/
def MadeI (w : World) (l : List Int) (v : Value) (w' : World) : Prop := ∃ A c, v = .slice A l.length c ∧ w'.ownsRow w.heap.size 3 1 v l.length (l.map (.int .i64)) ∧ Only [] w w'
theorem madeI_own {w w' : World} {A : Option Addr} {n c : Nat} {l : List Int} (hl : l.length = n) (h : w'.ownsRow w.heap.size 3 1 (.slice A n c) n (l.map (.int .i64))) (o : Only [] w w') : MadeI w l (.slice A n c) w' := by
  subst hl
  exact ⟨_, _, rfl, h, o⟩
theorem madeI_nil (w : World) : MadeI w [] (.slice none 0 0) w := ⟨none, 0, rfl, own_nil _ _ _ _, Only.refl _ _⟩
end Go.Proofs.Ytkhfcghnodggeaa
