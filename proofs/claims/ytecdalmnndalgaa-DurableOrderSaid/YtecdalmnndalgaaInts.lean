/- Slices of ints: words, and the contracts of what the statements share on them. -/
import Derived.Test.YtecdalmnndalgaaLend
import Derived.Test.YtecdalmnndalgaaMemB
import Derived.Deep.QuietTactic
import Derived.BigQuiet
import Derived.IntWalk
import Derived.WalkSpells
namespace Go.Proofs.FuMem
open Go.RowKit
set_option maxRecDepth 100000
/-- the slice holds these ints -/
def Is (w : World) (A : Option Addr) (n : Nat) (l : List Int) : Prop := Sl w A n (l.map (.int .i64))
section
variable {w w' : World} {S : List Nat} {A : Option Addr} {n c : Nat} {l : List Int} {e : TypeId} {base g : Nat}
theorem Is.len (h : Is w A n l) : l.length = n := by simpa [Is, Sl] using h.1
theorem Is.at_ (h : Is w A n l) (hn : 0 < n) : ∃ b off, A = some ⟨b, off, none⟩ ∧ ∀ k (hk : k < l.length), w.cell? ⟨b, off + k, none⟩ = some (.int .i64 l[k]) := by
  obtain ⟨b, off, e, hc⟩ := Sl.at_ h hn
  exact ⟨b, off, e, fun k hk => by rw [hc k (by simpa using hk), List.getElem_map]⟩
theorem Is.nil (w : World) (A : Option Addr) : Is w A 0 [] := Sl.nil w A
theorem Is.only (h : Is w A n l) (ho : Only S w w') (hs : ∀ b off s, A = some ⟨b, off, s⟩ → b ∉ S) : Is w' A n l := Sl.only h ho hs
theorem Is.only0 (h : Is w A n l) (ho : Only [] w w') : Is w' A n l := Sl.only0 h ho
theorem one_I : ∀ u ∈ l.map (Value.int .i64), u.oneCell' = true := by
  intro u hu
  obtain ⟨x, _, rfl⟩ := List.mem_map.1 hu
  rfl
theorem is_own (h : w.ownsRow base e 1 (.slice A n c) n (l.map (.int .i64))) : Is w A n l := Sl.of_own h
/-- a row of ints of the call's own, with its block -/
def OwnI (e : TypeId) (w : World) (base g n c : Nat) (l : List Int) : Prop := w.ownsRow base e 1 (.slice (some ⟨g, 0, none⟩) n c) n (l.map (.int .i64))
theorem OwnI.of {A : Option Addr} (h : w.ownsRow base e 1 (.slice A n c) n (l.map (.int .i64))) (hn : 0 < n) : ∃ g, A = some ⟨g, 0, none⟩ ∧ base ≤ g ∧ g < w.heap.size ∧ OwnI e w base g n c l := by
  obtain ⟨g, c2, he, hbg, hgl⟩ := h.form hn
  cases he
  exact ⟨g, rfl, hbg, hgl, h⟩
theorem OwnI.len (h : OwnI e w base g n c l) : l.length = n := by simpa using h.1
theorem OwnI.is (h : OwnI e w base g n c l) : Is w (some ⟨g, 0, none⟩) n l := Sl.of_own h
theorem OwnI.cell (h : OwnI e w base g n c l) (k : Nat) (hk : k < n) : w.cell? ⟨g, k, none⟩ = some (.int .i64 (l.getD k 0)) := by
  have hl := h.len
  have := World.ownsRow.cellAt h k (by omega)
  rw [this, List.getElem?_map, List.getElem?_eq_getElem (by omega)]
  simp [List.getD, List.getElem?_eq_getElem (show k < l.length by omega)]
theorem OwnI.frozen (h : OwnI e w base g n c l) (k : Nat) : w.frozen? ⟨g, k, none⟩ = false := World.ownsRow.frozenAt h k
theorem OwnI.set (h : OwnI e w base g n c l) (k : Nat) (x : Int) : OwnI e (w.setCell ⟨g, k, none⟩ (.int .i64 x)) base g n c (l.set k x) := by
  have := (World.ownsRow.stored h k (.int .i64 x)).1
  unfold OwnI
  rw [List.map_set]
  exact this
theorem OwnI.only (h : OwnI e w base g n c l) (ho : Only S w w') (hs : g ∉ S) : OwnI e w' base g n c l :=
  own_only h ho (by intro k hk; simp [Value.ownBlock] at hk; subst hk; exact hs)
end
theorem cell_new1 (w : World) (t : TypeId) (v : Value) : Sl (w.alloc (.cells #[v] t)) (some ⟨w.heap.size, 0, none⟩) 1 [v] := Sl.of_blk (Blk.new w t #[v]) 0 rfl (by simp)
theorem ints_new1 (k : IntKind) (z : Int) : ∀ u ∈ [Value.int k z], u.oneCell' = true := by
  intro u hu
  rw [List.mem_singleton] at hu
  subst hu
  rfl
theorem Only.drewN0 (w : World) (n : Nat) : Only [] w (w.drewN n) := (Only.refl _ _).drewN n
end Go.Proofs.FuMem
namespace Go.Proofs.Ytecdalmnndalgaa
open Go.RowKit Go.Proofs.FuMem
theorem Try.intInfo : (Try.prog.info? 3).map (fun i => (i.zero, i.size, i.bytes)) = some (some (.int .i64 0), 1, 8) := by kernel_rfl
/-- what a function hands back that makes ints of its own -/
def MadeI (w : World) (l : List Int) (v : Value) (w' : World) : Prop := ∃ A c, v = .slice A l.length c ∧ w'.ownsRow w.heap.size 3 1 v l.length (l.map (.int .i64)) ∧ Only [] w w'
theorem madeI_own {w w' : World} {A : Option Addr} {n c : Nat} {l : List Int} (hl : l.length = n) (h : w'.ownsRow w.heap.size 3 1 (.slice A n c) n (l.map (.int .i64))) (o : Only [] w w') : MadeI w l (.slice A n c) w' := by
  subst hl
  exact ⟨_, _, rfl, h, o⟩
theorem madeI_nil (w : World) : MadeI w [] (.slice none 0 0) w := ⟨none, 0, rfl, own_nil _ _ _ _, Only.refl _ _⟩
theorem law0_SameInts (A A' : Option Addr) (n m c d : Nat) (l k : List Int) (w : World) (h : Is w A n l) (h' : Is w A' m k) (hn : n ≤ 1000000000) (hm : m ≤ 1000000000) :
    Calls Try.prog 53 #[.slice A n c, .slice A' m d] w fun e w' => e = .returned (.bool (l == k)) ∧ Only [] w w' := by
  have hl := h.len
  have hk := h'.len
  by_cases hnm : n = m
  · subst hnm
    have HL := Lib.hid hl
    have HK := Lib.hid hk
    have H1 := Lib.hid h
    have H2 := Lib.hid h'
    clear h h' hl hk
    go_enter Try.func53, Try.ntmps53
    go_wp2
    go_loopw [5] (fun i wr => ∃ j : Nat, j ≤ n ∧ i = .int .i64 j ∧ (∀ i, i < j → l[i]? = k[i]?) ∧ Only [] w wr) (fun i _ => n - (intOf i).toNat)
    case atStart => exact ⟨0, Nat.zero_le _, rfl, fun i hi => by omega, Only.refl _ _⟩
    case round =>
      obtain ⟨j, hj, rfl, he, on⟩ := hrel
      have HE := Lib.hid he
      have HN := Lib.hid on
      clear he
      by_cases hlt : j < n
      · have hx := H1.out.only0 on
        have hy := H2.out.only0 on
        obtain ⟨b1, f1, rfl, hc1⟩ := hx.at_ (by omega)
        obtain ⟨b2, f2, rfl, hc2⟩ := hy.at_ (by omega)
        have hj1 : j < l.length := by rw [HL.out]; exact hlt
        have hj2 : j < k.length := by rw [HK.out]; exact hlt
        have e1 := hc1 j hj1
        have e2 := hc2 j hj2
        have q1 : l[j]? = some l[j] := List.getElem?_eq_getElem hj1
        have q2 : k[j]? = some k[j] := List.getElem?_eq_getElem hj2
        have Q1 := Lib.hid q1
        have Q2 := Lib.hid q2
        clear hc1 hc2 hx hy on q1 q2
        generalize l[j] = x at *
        generalize k[j] = y at *
        by_cases hxy : x = y
        · subst hxy
          go_wp2_with fail
          go_quiet (fail)
          go_wp2
          go_roundw
          case rel =>
            refine ⟨j + 1, by omega, by go_num, fun i hi => ?_, HN.out.drewN _⟩
            by_cases hij : i = j
            · subst hij
              rw [Q1.out, Q2.out]
            · exact HE.out i (by omega)
          case measure => simp [intOf]; omega
        · have d1 : (x != y) = true := by rw [bne_iff_ne]; exact hxy
          have hne : (l == k) = false := by
            rw [beq_eq_false_iff_ne]
            rintro rfl
            exact hxy (Option.some.inj (Q1.out.symm.trans Q2.out))
          have HNE := Lib.hid hne
          clear hne hxy
          go_wp2_with fail
          go_quiet (fail)
          go_wp2
          go_ret
          exact ⟨ret_bool HNE.out.symm, HN.out.drewN _⟩
      · have hee : (l == k) = true := by
          rw [beq_iff_eq]
          apply List.ext_getElem?
          intro i
          by_cases hi : i < n
          · exact HE.out i (by omega)
          · rw [List.getElem?_eq_none (by rw [HL.out]; omega), List.getElem?_eq_none (by rw [HK.out]; omega)]
        have HEE := Lib.hid hee
        clear hee on
        go_wp2
        go_ret
        exact ⟨ret_bool HEE.out.symm, HN.out⟩
  · have hne : (l == k) = false := by
      rw [beq_eq_false_iff_ne]
      rintro rfl
      omega
    have HNE := Lib.hid hne
    have d1 : ((n : Int) != (m : Int)) = true := by rw [bne_iff_ne]; omega
    clear h h' hl hk hne hnm
    go_enter Try.func53, Try.ntmps53
    go_wp2
    go_ret
    exact ⟨ret_bool HNE.out.symm, Only.refl _ _⟩
/-- what was answered may be written over: nothing else turns -/
theorem law0_OverInts {w0 : World} (A : Option Addr) (n c : Nat) (l : List Int) (w : World) (h : w.ownsRow w0.heap.size 3 1 (.slice A n c) n (l.map (.int .i64))) (on : Only [] w0 w) (hn : n ≤ 1000000) :
    Calls Try.prog 56 #[.slice A n c] w fun e w' => e = .returned (.tuple #[]) ∧ Only [] w0 w' := by
  obtain ⟨i0, hi, hz0, hz1, hz2⟩ := info_parts Try.intInfo
  have HI := Lib.hid hi
  have HZ0 := Lib.hid hz0
  have HZ1 := Lib.hid hz1
  have HZ2 := Lib.hid hz2
  have HO := Lib.hid h
  have HN := Lib.hid on
  clear hi hz0 hz1 hz2 h on
  go_enter Try.func56, Try.ntmps56
  go_wp2
  go_loopw [2] (fun i wr => ∃ (j : Nat) (l' : List Int), j ≤ n ∧ i = .int .i64 j ∧ wr.ownsRow w0.heap.size 3 1 (.slice A n c) n (l'.map (.int .i64)) ∧ Only [] w0 wr) (fun i _ => n - (intOf i).toNat)
  case atStart => exact ⟨0, l, Nat.zero_le _, rfl, HO.out, HN.out⟩
  case round =>
    obtain ⟨j, l', hj, rfl, ho, on⟩ := hrel
    by_cases hlt : j < n
    · obtain ⟨g, rfl, hbg, hgg, ho⟩ := OwnI.of ho (by omega)
      have hcell := ho.cell j hlt
      have hfr := ho.frozen j
      have hst := ho.set j (-999)
      have on2 := on.setCell (p := ⟨g, j, none⟩) (.inr hbg) (.int .i64 (-999))
      have H1 := Lib.hid hst
      have H2 := Lib.hid on2
      clear ho on hst on2
      generalize l'.set j (-999) = l2 at *
      generalize l'.getD j 0 = x at *
      go_wp2
      go_roundw
      case rel => exact ⟨j + 1, l2, by omega, by go_num, H1.out, H2.out⟩
      case measure => simp [intOf]; omega
    · obtain rfl : j = n := by omega
      obtain ⟨A', c', w', hr, ho2, hs2, on2⟩ := append_own (P := Try.prog) (wr.alloc (.cells #[.int .i64 (-998)] 3)) (on.alloc _) 42 42 3 i0 _ 8 Try.underlying42 HI.out HZ0.out HZ1.out HZ2.out rfl _ j _ (ho.alloc _) (some ⟨wr.heap.size, 0, none⟩) 1 1 [.int .i64 (-998)] (cell_new1 _ _ _) (ints_new1 _ _) (by unfold maxLen; omega) (by omega)
      have H2 := Lib.hid on2
      clear ho on hs2 ho2 on2
      go_wp2_with (at_builtin; refine wpList_append_run _ rfl (.tmp 12) (.tmp 13) 42 rfl _ _ rfl rfl _ _ hr ?_)
      go_end0
      exact ⟨rfl, H2.out⟩
end Go.Proofs.Ytecdalmnndalgaa
