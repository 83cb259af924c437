/- Blocks and their lines in plain Lean. No program in sight. -/
import Derived.Test.YtkhfcghnodggeaaCrc
import Derived.Test.YtkhfcghnodggeaaCodeP
import Derived.Test.YtkhfcghnodggeaaClassP
namespace Go.Proofs.FuBlock
open Go.Proofs.FuCrc Go.Proofs.FuCode Go.Proofs.FuClass
structure Block where
  cls : Int
  kind : Int
  id : Nat
  ver : Nat
  ep : Nat
  key : List UInt8
  val : List UInt8
def u8 (x : Int) : UInt8 := UInt8.ofNat (x % 256).toNat
theorem u8_toNat (x : Int) : ((u8 x).toNat : Int) = x % 256 := by
  unfold u8
  rw [UInt8.toNat_ofNat_of_lt' (by show _ < 256; omega)]
  omega
def capN (c : Int) : Nat := (capOf c).toNat
theorem capN_val (c : Int) : (span c = 0 ∧ capN c = 0) ∨ (1 ≤ span c ∧ span c ≤ 8 ∧ capN c = 28 + 63 * (span c - 1)) := by
  have := capOf_val c
  unfold capN
  omega
def number (v : Nat) : Bool := decide (1 ≤ v) && decide (v ≤ 2305843009213693952)
def may (b : Block) : Bool :=
  decide (0 ≤ b.cls ∧ b.cls ≤ 3) &&
  if b.kind = 0 then decide (b.id = 0 ∧ b.ver = 0 ∧ b.ep = 0 ∧ b.key = [] ∧ b.val = [])
  else (number b.id && number b.ver && number b.ep) &&
    if b.kind = 1 then decide (1 ≤ b.key.length ∧ b.key.length ≤ 16 ∧ b.val.length ≤ 400 ∧ need (b.key.length + b.val.length : Nat) = b.cls)
    else if b.kind = 2 then decide (b.key.length = 0 ∧ b.val.length ≤ 400 ∧ need (b.key.length + b.val.length : Nat) = b.cls)
    else if b.kind = 3 then decide (b.key.length = 0 ∧ b.val.length = 0 ∧ b.cls = 0)
    else false
theorem need_fits {n : Nat} {c : Int} (h : need (n : Int) = c) (h0 : 0 ≤ c) : n ≤ capN c := by
  have hv := capOf_val c
  have hs := span_cases c
  unfold need at h
  unfold capN
  repeat' split at h
  all_goals omega
/-- what a block that may be is like -/
structure Fine (b : Block) : Prop where
  c0 : 0 ≤ b.cls
  c3 : b.cls ≤ 3
  k0 : 0 ≤ b.kind
  k3 : b.kind ≤ 3
  id : b.id < 18446744073709551616
  ver : b.ver < 18446744073709551616
  ep : b.ep < 18446744073709551616
  key : b.key.length ≤ 16
  val : b.val.length ≤ 400
  fit : b.key.length + b.val.length ≤ capN b.cls
theorem number_lt {v : Nat} (h : number v = true) : v < 18446744073709551616 := by
  unfold number at h
  simp at h
  omega
theorem fine_of {b : Block} (h : may b = true) : Fine b := by
  unfold may at h
  rw [Bool.and_eq_true, decide_eq_true_eq] at h
  obtain ⟨⟨h1, h2⟩, h⟩ := h
  split at h
  · rename_i hk
    rw [decide_eq_true_eq] at h
    obtain ⟨a, b', c, d, e⟩ := h
    refine ⟨h1, h2, by omega, by omega, by omega, by omega, by omega, by rw [d]; simp, by rw [e]; simp, by rw [d, e]; simp⟩
  · rw [Bool.and_eq_true, Bool.and_eq_true, Bool.and_eq_true] at h
    obtain ⟨⟨⟨n1, n2⟩, n3⟩, h⟩ := h
    have m1 := number_lt n1
    have m2 := number_lt n2
    have m3 := number_lt n3
    split at h
    · rename_i hk
      rw [decide_eq_true_eq] at h
      obtain ⟨a, b', c, d⟩ := h
      exact ⟨h1, h2, by omega, by omega, m1, m2, m3, b', c, need_fits d h1⟩
    · split at h
      · rename_i hk
        rw [decide_eq_true_eq] at h
        obtain ⟨a, c, d⟩ := h
        exact ⟨h1, h2, by omega, by omega, m1, m2, m3, by omega, c, need_fits d h1⟩
      · split at h
        · rename_i hk
          rw [decide_eq_true_eq] at h
          obtain ⟨a, c, d⟩ := h
          exact ⟨h1, h2, by omega, by omega, m1, m2, m3, by omega, by omega, by omega⟩
        · cases h

/-! ### lines -/
/-- the byte that stands at p, of a head, a sum, data -/
def byteAt (h s r : List UInt8) (p : Nat) : UInt8 :=
  if p < 32 then h.getD p 0 else if p < 36 then s.getD (p - 32) 0 else if p < 64 then r.getD (p - 36) 0 else if p % 64 = 0 then 2 else r.getD (28 + 63 * (p / 64 - 1) + (p % 64 - 1)) 0
def laid (h s r : List UInt8) (n : Nat) : List UInt8 := (List.range n).map (byteAt h s r)
def pos (i : Nat) : Nat := if i < 28 then 36 + i else 65 + 64 * ((i - 28) / 63) + (i - 28) % 63
/-- the data that stand in m lines -/
def dataOf (m : Nat) (x : List UInt8) : List UInt8 := (List.range (28 + 63 * (m - 1))).map fun i => x.getD (pos i) 0
theorem laid_length (h s r : List UInt8) (n : Nat) : (laid h s r n).length = n := by simp [laid]
theorem laid_get (h s r : List UInt8) {n p : Nat} (hp : p < n) : (laid h s r n).getD p 0 = byteAt h s r p := by
  simp [laid, List.getD, hp]
theorem laid_at (h s r : List UInt8) {n p : Nat} (hp : p < (laid h s r n).length) : (laid h s r n)[p] = byteAt h s r p := by
  simp [laid]
theorem laid_take (h s r : List UInt8) {n k : Nat} (hk : k ≤ n) : (laid h s r n).take k = laid h s r k := by
  unfold laid
  rw [← List.map_take, List.take_range, Nat.min_eq_left hk]
theorem laid_succ (h s r : List UInt8) (k : Nat) : laid h s r (k + 1) = laid h s r k ++ [byteAt h s r k] := by simp [laid, List.range_succ]
theorem getD_eq {l : List UInt8} {i : Nat} (hi : i < l.length) : l.getD i 0 = l[i] := by simp [List.getD, hi]
theorem laid_head {h : List UInt8} (hh : h.length = 32) (s r : List UInt8) {n : Nat} (hn : 64 ≤ n) : (laid h s r n).take 32 = h := by
  rw [laid_take h s r (by omega)]
  apply List.ext_getElem
  · rw [laid_length, hh]
  · intro i h1 h2
    rw [laid_at]
    unfold byteAt
    rw [if_pos (by omega), getD_eq h2]
theorem laid_sum (h : List UInt8) {s : List UInt8} (hs : s.length = 4) (r : List UInt8) {n : Nat} (hn : 64 ≤ n) : ((laid h s r n).drop 32).take 4 = s := by
  apply List.ext_getElem
  · rw [List.length_take, List.length_drop, laid_length, hs]
    omega
  · intro i h1 h2
    rw [List.getElem_take, List.getElem_drop, laid_at]
    unfold byteAt
    rw [if_neg (by omega), if_pos (by omega), getD_eq (by omega)]
    congr 1
    omega
theorem pos_lt {i m : Nat} (hm : 1 ≤ m) (hi : i < 28 + 63 * (m - 1)) : pos i < 64 * m := by
  unfold pos
  split <;> omega
theorem byteAt_pos (h s r : List UInt8) (i : Nat) : byteAt h s r (pos i) = r.getD i 0 := by
  unfold byteAt pos
  split
  · rw [if_neg (by omega), if_neg (by omega), if_pos (by omega), Nat.add_sub_cancel_left]
  · rw [if_neg (by omega), if_neg (by omega), if_neg (by omega), if_neg (by omega)]
    congr 1
    omega
theorem laid_data (h s : List UInt8) {r : List UInt8} {m n : Nat} (hm : 1 ≤ m) (hn : n = 64 * m) (hr : r.length = 28 + 63 * (m - 1)) : dataOf m (laid h s r n) = r := by
  subst hn
  unfold dataOf
  apply List.ext_getElem
  · simp [hr]
  · intro i h1 h2
    rw [List.getElem_map, List.getElem_range, laid_get _ _ _ (pos_lt hm (by omega)), byteAt_pos, getD_eq h2]
theorem pos_inj {i j : Nat} (h : pos i = pos j) : i = j := by
  unfold pos at h
  split at h <;> split at h <;> omega
theorem set_getD {l : List UInt8} {k : Nat} {v : UInt8} {p : Nat} (hk : k < l.length) : (l.set k v).getD p 0 = if p = k then v else l.getD p 0 := by
  simp only [List.getD, List.getElem?_set]
  by_cases e : k = p
  · subst e
    simp [hk]
  · rw [if_neg e, if_neg (fun h => e h.symm)]
theorem dataOf_set {m : Nat} {x : List UInt8} {k : Nat} {v : UInt8} (hk : k < x.length) : dataOf m (x.set k v) = (List.range (28 + 63 * (m - 1))).map fun i => if pos i = k then v else x.getD (pos i) 0 := by
  unfold dataOf
  apply List.map_congr_left
  intro i _
  exact set_getD hk
theorem dataOf_hit {m : Nat} {x : List UInt8} {k i : Nat} {v : UInt8} (hk : k < x.length) (hi : pos i = k) : dataOf m (x.set k v) = (dataOf m x).set i v := by
  rw [dataOf_set hk]
  unfold dataOf
  apply List.ext_getElem
  · simp
  · intro j h1 h2
    rw [List.getElem_map, List.getElem_range, List.getElem_set, List.getElem_map, List.getElem_range]
    by_cases e : i = j
    · subst e
      rw [if_pos hi, if_pos rfl]
    · rw [if_neg (fun h => e (pos_inj (hi.trans h.symm))), if_neg e]
theorem dataOf_miss {m : Nat} {x : List UInt8} {k : Nat} {v : UInt8} (hk : k < x.length) (hi : ∀ i, pos i ≠ k) : dataOf m (x.set k v) = dataOf m x := by
  rw [dataOf_set hk]
  unfold dataOf
  apply List.map_congr_left
  intro i _
  rw [if_neg (hi i)]
theorem pos_hit {k m : Nat} (h1 : 36 ≤ k) (h2 : k < 64 * m) (h3 : k < 64 ∨ k % 64 ≠ 0) : ∃ i, i < 28 + 63 * (m - 1) ∧ pos i = k := by
  by_cases h : k < 64
  · exact ⟨k - 36, by omega, by unfold pos; rw [if_pos (by omega)]; omega⟩
  · refine ⟨28 + 63 * (k / 64 - 1) + (k % 64 - 1), by omega, ?_⟩
    unfold pos
    rw [if_neg (by omega)]
    omega
theorem pos_miss {k : Nat} (h : k < 36 ∨ (64 ≤ k ∧ k % 64 = 0)) (i : Nat) : pos i ≠ k := by
  unfold pos
  split <;> omega
/-- of a line's bytes one is another one: its sum does not fit -/
theorem laid_turn {h s r h' s' r' : List UInt8} {m n k : Nat} {v : UInt8} (hm : 1 ≤ m) (hn : n = 64 * m) (hh : h.length = 32) (hh' : h'.length = 32) (hr : r.length = 28 + 63 * (m - 1)) (hr' : r'.length = 28 + 63 * (m - 1))
    (hs : s = lay 4 (crc (h ++ r))) (hs' : s' = lay 4 (crc (h' ++ r'))) (hk : k < n) (he : (laid h s r n).set k v = laid h' s' r' n) : v = (laid h s r n).getD k 0 := by
  have hl := laid_length h s r n
  have sl : s.length = 4 := by rw [hs, lay_length]
  have sl' : s'.length = 4 := by rw [hs', lay_length]
  have e1 : ((laid h s r n).set k v).take 32 = h' := by rw [he]; exact laid_head hh' s' r' (by omega)
  have e2 : (((laid h s r n).set k v).drop 32).take 4 = s' := by rw [he]; exact laid_sum h' sl' r' (by omega)
  have e3 : dataOf m ((laid h s r n).set k v) = r' := by rw [he]; exact laid_data h' s' hm hn hr'
  have f1 := laid_head hh s r (n := n) (by omega)
  have f2 := laid_sum h sl r (n := n) (by omega)
  have f3 := laid_data h s hm hn hr
  have crc_eq : s = s' → crc (h ++ r) = crc (h' ++ r') := fun e => by
    have := congrArg num (hs.symm.trans (e.trans hs'))
    rwa [num_lay_lt _ _ (by have := crc_lt (h ++ r); omega), num_lay_lt _ _ (by have := crc_lt (h' ++ r'); omega)] at this
  by_cases hne : v = (laid h s r n).getD k 0
  · exact hne
  exfalso
  by_cases k32 : k < 32
  · have s2 : s = s' := by
      rw [← f2, ← e2, List.drop_set, if_pos k32]
    have r2 : r = r' := by rw [← f3, ← e3, dataOf_miss (by omega) (pos_miss (by omega))]
    have h2 : h' = h.set k v := by rw [← e1, List.take_set, f1]
    have hc := crc_eq s2
    rw [h2, ← r2, ← List.set_append_left _ _ (by omega)] at hc
    refine crc_turn (h ++ r) k (by rw [List.length_append]; omega) v ?_ hc.symm
    rw [List.getElem_append_left (by omega)]
    rw [laid_get _ _ _ hk] at hne
    unfold byteAt at hne
    rwa [if_pos k32, getD_eq (by omega)] at hne
  by_cases k36 : k < 36
  · have h2 : h' = h := by rw [← e1, List.take_set_of_le (by omega)]; exact f1
    have r2 : r' = r := by rw [← f3, ← e3, dataOf_miss (by omega) (pos_miss (by omega))]
    have s2 : s' = s := by rw [hs', hs, h2, r2]
    have hg : (((laid h s r n).set k v).drop 32).take 4 = (((laid h s r n).drop 32).take 4) := by rw [e2, f2, s2]
    have := congrArg (fun l => l.getD (k - 32) 0) hg
    simp only [List.getD, List.getElem?_take, List.getElem?_drop] at this
    rw [if_pos (by omega), if_pos (by omega), show 32 + (k - 32) = k by omega, List.getElem?_set_self (by omega)] at this
    exact hne this
  by_cases kt : 64 ≤ k ∧ k % 64 = 0
  · have := congrArg (fun l => l.getD k 0) he
    rw [set_getD (by omega), if_pos rfl, laid_get _ _ _ hk] at this
    rw [laid_get _ _ _ hk] at hne
    unfold byteAt at this hne
    rw [if_neg k32, if_neg k36, if_neg (by omega), if_pos kt.2] at this hne
    exact hne this
  obtain ⟨i, hi, hp⟩ := pos_hit (k := k) (m := m) (by omega) (by omega) (by omega)
  have s2 : s = s' := by
    rw [← f2, ← e2]
    apply List.ext_getElem?
    intro j
    simp only [List.getElem?_take, List.getElem?_drop]
    split
    · rw [List.getElem?_set_ne (by omega)]
    · rfl
  have h2 : h' = h := by rw [← e1, List.take_set_of_le (by omega)]; exact f1
  have r2 : r' = r.set i v := by rw [← e3, dataOf_hit (by omega) hp, f3]
  have hc := crc_eq s2
  rw [h2, r2, show h ++ r.set i v = (h ++ r).set (h.length + i) v by rw [List.set_append_right _ _ (by omega), Nat.add_sub_cancel_left]] at hc
  refine crc_turn (h ++ r) (h.length + i) (by rw [List.length_append]; omega) v ?_ hc.symm
  rw [List.getElem_append_right (by omega)]
  rw [laid_get _ _ _ hk, ← hp, byteAt_pos, getD_eq (by omega)] at hne
  intro e
  apply hne
  rw [e]
  congr 1
  omega

/-! ### blocks -/
def head32 (b : Block) : List UInt8 := [1, u8 b.cls, u8 b.kind, u8 b.key.length] ++ lay 2 b.val.length ++ [0, 0] ++ lay 8 b.id ++ lay 8 b.ver ++ lay 8 b.ep
def pad (n : Nat) (l : List UInt8) : List UInt8 := l ++ List.replicate (n - l.length) 0
def room (b : Block) : List UInt8 := pad (capN b.cls) (b.key ++ b.val)
def sumOf (b : Block) : List UInt8 := lay 4 (crc (head32 b ++ room b))
def byteOf (b : Block) (p : Nat) : UInt8 := byteAt (head32 b) (sumOf b) (room b) p
def linesTo (b : Block) (n : Nat) : List UInt8 := laid (head32 b) (sumOf b) (room b) n
def lines (b : Block) : List UInt8 := linesTo b (64 * span b.cls)
theorem head32_length (b : Block) : (head32 b).length = 32 := by simp [head32, lay_length]
theorem pad_length {n : Nat} {l : List UInt8} (h : l.length ≤ n) : (pad n l).length = n := by simp [pad]; omega
theorem sumOf_length (b : Block) : (sumOf b).length = 4 := lay_length _ _
theorem room_length {b : Block} (h : b.key.length + b.val.length ≤ capN b.cls) : (room b).length = capN b.cls := pad_length (by simpa using h)
theorem lines_length (b : Block) : (lines b).length = 64 * span b.cls := laid_length _ _ _ _
def nought : Block := ⟨0, 0, 0, 0, 0, [], []⟩
def parse (x : List UInt8) : Block :=
  let d := dataOf (span (x.getD 1 0).toNat) x
  ⟨(x.getD 1 0).toNat, (x.getD 2 0).toNat, num ((x.drop 8).take 8), num ((x.drop 16).take 8), num ((x.drop 24).take 8), d.take (x.getD 3 0).toNat, (d.drop (x.getD 3 0).toNat).take (num ((x.drop 4).take 2))⟩
/-- is there a block of which these are the lines? -/
def reads (x : List UInt8) : Prop := 64 ≤ x.length ∧ x.length = 64 * span (x.getD 1 0).toNat ∧ (x.getD 3 0).toNat + num ((x.drop 4).take 2) ≤ capN (x.getD 1 0).toNat ∧ may (parse x) = true ∧ lines (parse x) = x
instance (x : List UInt8) : Decidable (reads x) := by unfold reads; infer_instance
def dec (x : List UInt8) : Block := if reads x then parse x else nought
theorem span_pos {c : Int} (h0 : 0 ≤ c) (h3 : c ≤ 3) : 1 ≤ span c ∧ span c ≤ 8 := by have := span_cases c; omega
theorem lines_head (b : Block) (h : 1 ≤ span b.cls) : (lines b).take 32 = head32 b := laid_head (head32_length b) _ _ (by omega)
theorem head_cut (b : Block) : ((head32 b).drop 4).take 2 = lay 2 b.val.length ∧ ((head32 b).drop 8).take 8 = lay 8 b.id ∧ ((head32 b).drop 16).take 8 = lay 8 b.ver ∧ ((head32 b).drop 24).take 8 = lay 8 b.ep := by
  have l2 := lay_length 2 b.val.length
  have li := lay_length 8 b.id
  have lv := lay_length 8 b.ver
  have le := lay_length 8 b.ep
  unfold head32
  generalize lay 2 b.val.length = w at *
  generalize lay 8 b.id = i at *
  generalize lay 8 b.ver = v at *
  generalize lay 8 b.ep = e at *
  generalize u8 b.cls = c1
  generalize u8 b.kind = c2
  generalize u8 b.key.length = c3
  refine ⟨?_, ?_, ?_, ?_⟩
  · have : [1, c1, c2, c3] ++ w ++ [0, 0] ++ i ++ v ++ e = [1, c1, c2, c3] ++ (w ++ ([0, 0] ++ i ++ v ++ e)) := by simp
    rw [this, List.drop_left' (by simp), List.take_left' (by omega)]
  · have : [1, c1, c2, c3] ++ w ++ [0, 0] ++ i ++ v ++ e = ([1, c1, c2, c3] ++ w ++ [0, 0]) ++ (i ++ (v ++ e)) := by simp
    rw [this, List.drop_left' (by simp; omega), List.take_left' (by omega)]
  · have : [1, c1, c2, c3] ++ w ++ [0, 0] ++ i ++ v ++ e = ([1, c1, c2, c3] ++ w ++ [0, 0] ++ i) ++ (v ++ e) := by simp
    rw [this, List.drop_left' (by simp; omega), List.take_left' (by omega)]
  · have : [1, c1, c2, c3] ++ w ++ [0, 0] ++ i ++ v ++ e = ([1, c1, c2, c3] ++ w ++ [0, 0] ++ i ++ v) ++ (e ++ []) := by simp
    rw [this, List.drop_left' (by simp; omega), List.take_left' (by omega)]
theorem take_drop_take {x : List UInt8} {a m n : Nat} (h : a + m ≤ n) : (x.drop a).take m = ((x.take n).drop a).take m := by
  apply List.ext_getElem?
  intro i
  simp only [List.getElem?_take, List.getElem?_drop]
  split
  · rw [if_pos (by omega)]
  · rfl
theorem getD_take {x : List UInt8} {a n : Nat} (h : a < n) : (x.take n).getD a 0 = x.getD a 0 := by
  simp only [List.getD, List.getElem?_take, if_pos h]
theorem parse_lines {b : Block} (h : Fine b) : parse (lines b) = b := by
  have hs := span_pos h.c0 h.c3
  have hh := lines_head b hs.1
  have g : ∀ a, a < 32 → (lines b).getD a 0 = (head32 b).getD a 0 := fun a ha => by rw [← hh, getD_take ha]
  have t : ∀ a m, a + m ≤ 32 → ((lines b).drop a).take m = ((head32 b).drop a).take m := fun a m ha => by rw [take_drop_take ha, hh]
  obtain ⟨t4, t8, t16, t24⟩ := head_cut b
  have g1 : (((lines b).getD 1 0).toNat : Int) = b.cls := by
    rw [g 1 (by omega)]
    show ((u8 b.cls).toNat : Int) = _
    rw [u8_toNat]
    have := h.c0
    have := h.c3
    omega
  have g2 : (((lines b).getD 2 0).toNat : Int) = b.kind := by
    rw [g 2 (by omega)]
    show ((u8 b.kind).toNat : Int) = _
    rw [u8_toNat]
    have := h.k0
    have := h.k3
    omega
  have g3 : ((lines b).getD 3 0).toNat = b.key.length := by
    rw [g 3 (by omega)]
    have := u8_toNat b.key.length
    have := h.key
    show (u8 b.key.length).toNat = _
    omega
  have hc := capN_val b.cls
  have hfit := h.fit
  have hrl : (room b).length = 28 + 63 * (span b.cls - 1) := by rw [room_length hfit]; omega
  have hd : dataOf (span b.cls) (lines b) = room b := laid_data _ _ hs.1 rfl hrl
  unfold parse
  simp only [g1, g2, g3, t 4 2 (by omega), t 8 8 (by omega), t 16 8 (by omega), t 24 8 (by omega), t4, t8, t16, t24, hd]
  rw [num_lay_lt 8 b.id h.id, num_lay_lt 8 b.ver h.ver, num_lay_lt 8 b.ep h.ep, num_lay_lt 2 b.val.length (by have := h.val; omega)]
  have k1 : (room b).take b.key.length = b.key := by
    unfold room pad
    rw [List.append_assoc, List.take_left' rfl]
  have k2 : ((room b).drop b.key.length).take b.val.length = b.val := by
    unfold room pad
    rw [List.append_assoc, List.drop_left' rfl, List.take_left' rfl]
  rw [k1, k2]
theorem reads_lines {b : Block} (h : may b = true) : reads (lines b) := by
  have hf := fine_of h
  have hs := span_pos hf.c0 hf.c3
  have hp := parse_lines hf
  have hl := lines_length b
  have c1 : (parse (lines b)).cls = (((lines b).getD 1 0).toNat : Int) := rfl
  rw [hp] at c1
  have hh := lines_head b hs.1
  have g3 : ((lines b).getD 3 0).toNat = b.key.length := by
    rw [← getD_take (n := 32) (by omega), hh]
    have := u8_toNat b.key.length
    have := hf.key
    show (u8 b.key.length).toNat = _
    omega
  have g4 : num (((lines b).drop 4).take 2) = b.val.length := by
    rw [take_drop_take (n := 32) (by omega), hh, (head_cut b).1, num_lay_lt 2 b.val.length (by have := hf.val; omega)]
  refine ⟨by omega, by rw [← c1]; exact hl, by rw [← c1, g3, g4]; exact hf.fit, by rw [hp]; exact h, by rw [hp]⟩
theorem dec_lines {b : Block} (h : may b = true) : dec (lines b) = b := by
  unfold dec
  rw [if_pos (reads_lines h), parse_lines (fine_of h)]
theorem lines_inj {a b : Block} (ha : may a = true) (hb : may b = true) (h : lines a = lines b) : a = b := by
  rw [← dec_lines ha, h, dec_lines hb]
theorem span_inj {a b : Int} (ha : 0 ≤ a ∧ a ≤ 3) (hb : 0 ≤ b ∧ b ≤ 3) (h : span a = span b) : a = b := by
  have h1 := span_cases a
  have h2 := span_cases b
  omega
/-- one byte is another one -/
theorem reads_turn {b : Block} (h : may b = true) {k : Nat} {v : UInt8} (hk : k < (lines b).length) (hne : v ≠ (lines b).getD k 0) : ¬ reads ((lines b).set k v) := by
  rintro ⟨_, hl, _, hm, he⟩
  have hf := fine_of h
  have hf' := fine_of hm
  generalize hy : parse ((lines b).set k v) = y at *
  rw [List.length_set] at hl
  have hl2 := congrArg List.length he
  rw [lines_length, List.length_set, lines_length] at hl2
  have hc : y.cls = b.cls := span_inj ⟨hf'.c0, hf'.c3⟩ ⟨hf.c0, hf.c3⟩ (by omega)
  have hs := span_pos hf.c0 hf.c3
  have c1 := capN_val b.cls
  have r1 : (room b).length = 28 + 63 * (span b.cls - 1) := by rw [room_length hf.fit]; omega
  have r2 : (room y).length = 28 + 63 * (span b.cls - 1) := by rw [room_length hf'.fit, hc]; omega
  rw [lines_length] at hk
  refine hne (laid_turn (h' := head32 y) (s' := sumOf y) (r' := room y) hs.1 rfl (head32_length b) (head32_length y) r1 r2 rfl rfl hk ?_)
  have : lines y = laid (head32 y) (sumOf y) (room y) (64 * span b.cls) := by rw [lines, linesTo, hc]
  rw [← this, he]
  rfl
/-- .. or there is one byte more, or less -/
theorem reads_len {x : List UInt8} (h : reads x) : x.length % 64 = 0 := by
  obtain ⟨_, h, _⟩ := h
  omega
/-- what looks like a head -/
def isHead (x : List UInt8) : Prop := x.length = 64 ∧ x.getD 0 0 = 1 ∧ (x.getD 1 0).toNat ≤ 3 ∧ (x.getD 2 0).toNat ≤ 3
instance (x : List UInt8) : Decidable (isHead x) := by unfold isHead; infer_instance
theorem reads_head {x : List UInt8} (h : reads x) : isHead (x.take 64) := by
  obtain ⟨h1, _, _, hm, he⟩ := h
  have hf := fine_of hm
  have hs := span_pos hf.c0 hf.c3
  refine ⟨by rw [List.length_take]; omega, ?_, ?_, ?_⟩
  · rw [getD_take (by omega), ← he, ← getD_take (n := 32) (by omega), lines_head _ hs.1]
    rfl
  · rw [getD_take (by omega)]
    have := hf.c3
    have c1 : (parse x).cls = ((x.getD 1 0).toNat : Int) := rfl
    omega
  · rw [getD_take (by omega)]
    have := hf.k3
    have c1 : (parse x).kind = ((x.getD 2 0).toNat : Int) := rfl
    omega
/-- the lines of a block behind its first one -/
theorem line_at {b : Block} {j : Nat} (hj : j < span b.cls) : (((lines b).drop (64 * j)).take 64).length = 64 ∧ (((lines b).drop (64 * j)).take 64).getD 0 0 = (if j = 0 then 1 else 2) := by
  have hl := lines_length b
  refine ⟨by rw [List.length_take, List.length_drop]; omega, ?_⟩
  simp only [List.getD, List.getElem?_take, List.getElem?_drop, if_pos (show 0 < 64 by omega), Nat.add_zero]
  rw [List.getElem?_eq_getElem (by omega)]
  show (lines b)[64 * j] = _
  unfold lines linesTo
  rw [laid_at]
  by_cases e : j = 0
  · subst e
    rfl
  · rw [if_neg e]
    unfold byteAt
    rw [if_neg (by omega), if_neg (by omega), if_neg (by omega), if_pos (by omega)]
theorem first_head {b : Block} (h : may b = true) : isHead ((lines b).take 64) ∧ (((lines b).getD 1 0).toNat : Int) = b.cls ∧ (((lines b).getD 2 0).toNat : Int) = b.kind := by
  have hp := parse_lines (fine_of h)
  refine ⟨reads_head (reads_lines h), ?_, ?_⟩
  · exact congrArg Block.cls hp
  · exact congrArg Block.kind hp
end Go.Proofs.FuBlock
