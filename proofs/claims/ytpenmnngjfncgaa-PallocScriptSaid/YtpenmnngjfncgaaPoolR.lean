/- Pools of blocks: giving all back, marking all. No program in sight. -/
import Derived.Test.YtpenmnngjfncgaaPoolQ
namespace Go.Proofs.FuPool
open Go.Proofs.FuClass
theorem give_cls {s : Slab} {k m : Nat} (h : (s.give k).at m = true) : (s.give k).cls = s.cls := by
  have := n_pos h
  unfold Slab.n Slab.give at this
  unfold Slab.give
  simp only at this ⊢
  rw [if_neg (by omega)]
theorem mem_give {Q : Pool} (hQ : Ok Q) (hl : Q.length ≤ 32) {line : Int} {i k : Nat} (hb : blockAt Q line = some (i, k)) (x : Int × Int) : x ∈ takenOf (giveP Q line) ↔ x ∈ takenOf Q ∧ x.1 ≠ line := by
  obtain ⟨s, hs, h1, h2, h3, h4, h5, h6⟩ := blockAt_some hl hb
  have hi : i < Q.length := (List.getElem?_eq_some_iff.1 hs).1
  have ho := hQ s (List.mem_of_getElem? hs)
  have hm := many_span ⟨h4, h5⟩
  have e : giveP Q line = Q.modify i fun s => s.give k := by unfold giveP; rw [hb]
  have hat : ∀ m, (s.give k).at m = (!decide (m = k) && s.at m) := fun m => give_at ho.len (by omega)
  rw [e, mem_takenOf, mem_takenOf]
  constructor
  · rintro ⟨j, t, m, ht, g1, g2, rfl⟩
    rw [List.getElem?_modify] at ht
    by_cases hij : i = j
    · subst hij
      rw [hs] at ht
      simp at ht
      subst ht
      have hcl := give_cls g2
      rw [hcl] at g1 ⊢
      rw [hat m] at g2
      simp at g2
      refine ⟨⟨i, s, m, hs, g1, g2.2, rfl⟩, fun he => ?_⟩
      simp only at he
      rw [h2] at he
      exact g2.1 (lineAt_inj ⟨h4, h5⟩ he)
    · simp [hij] at ht
      refine ⟨⟨j, t, m, ht, g1, g2, rfl⟩, fun he => ?_⟩
      simp only at he
      have hj : j < Q.length := (List.getElem?_eq_some_iff.1 ht).1
      have := slabOf_lineAt (i := j) (by omega) (many_cls g1) g1
      rw [he, h6] at this
      omega
  · rintro ⟨⟨j, t, m, ht, g1, g2, rfl⟩, hne⟩
    by_cases hij : i = j
    · subst hij
      rw [hs] at ht
      cases ht
      have hmk : m ≠ k := fun h => hne (by rw [h]; exact h2.symm)
      have hg : (s.give k).at m = true := by rw [hat m]; simp [hmk, g2]
      have hcl := give_cls hg
      refine ⟨i, s.give k, m, by rw [List.getElem?_modify, hs]; simp, by rw [hcl]; exact g1, hg, by rw [hcl]⟩
    · exact ⟨j, t, m, by rw [List.getElem?_modify, ht]; simp [hij], g1, g2, rfl⟩
theorem whole_step {Q : Pool} (hQ : Ok Q) (hl : Q.length ≤ 32) {a : Int × Int} {l : List (Int × Int)} (h : takenOf Q = a :: l) : giveA Q a.1 = 0 ∧ takenOf (giveP Q a.1) = l := by
  have ha : a ∈ takenOf Q := by rw [h]; exact List.mem_cons_self ..
  obtain ⟨i, s, k, hs, h1, h2, e⟩ := mem_takenOf.1 ha
  have hb : blockAt Q a.1 = some (i, k) := by rw [e]; exact blockAt_of hQ hl hs h2
  have hr := taken_lt Q
  rw [h] at hr
  obtain ⟨hr1, hr2⟩ := List.pairwise_cons.1 hr
  refine ⟨by unfold giveA; rw [hb], sorted_ext (fun x => x.1) (taken_lt _) hr2 fun x => ?_⟩
  rw [mem_give hQ hl hb, h]
  constructor
  · rintro ⟨hx, hne⟩
    rcases List.mem_cons.1 hx with e | e
    · rw [e] at hne
      exact absurd rfl hne
    · exact e
  · intro hx
    refine ⟨List.mem_cons_of_mem _ hx, fun he => ?_⟩
    have := hr1 x hx
    omega
theorem whole_slab {s : Slab} (ho : s.Ok) (h : ∀ k, k < many s.cls → s.at k = false) : s.cls = -1 := by
  refine ho.zero ?_
  cases hn : s.n with
  | zero => rfl
  | succ m =>
    exfalso
    have : 0 < s.taken.count true := by unfold Slab.n at hn; omega
    obtain ⟨k, hk, e⟩ := List.getElem_of_mem (List.count_pos_iff.1 this)
    have h1 : s.taken[k]? = some true := by rw [List.getElem?_eq_getElem hk, e]
    have h2 := h k (ho.fits k h1)
    rw [at_of h1] at h2
    cases h2
theorem whole_end {Q : Pool} (hQ : Ok Q) (h1 : 1 ≤ Q.length) (h : takenOf Q = []) : (∀ (k : Nat) (x : Int), (slabsOf Q)[k]? = some x → x = -1) ∧ takeA Q 3 = (2, 0) := by
  have hall : ∀ s ∈ Q, s.cls = -1 := fun s hs => by
    obtain ⟨i, hi, e⟩ := List.getElem_of_mem hs
    refine whole_slab (hQ s hs) fun k hk => ?_
    cases ha : s.at k with
    | false => rfl
    | true =>
      exfalso
      have : (lineAt i k s.cls, s.cls) ∈ takenOf Q := mem_takenOf.2 ⟨i, s, k, by rw [List.getElem?_eq_getElem hi, e], hk, ha, rfl⟩
      rw [h] at this
      cases this
  refine ⟨fun k x hx => ?_, ?_⟩
  · unfold slabsOf at hx
    rw [List.getElem?_map, Option.map_eq_some_iff] at hx
    obtain ⟨s, hs, rfl⟩ := hx
    exact hall s (List.mem_of_getElem? hs)
  · have hf : findIn Q 3 = none := by
      unfold findIn
      rw [List.findSome?_eq_none_iff]
      intro j _
      cases hs : Q[j]? with
      | none => rfl
      | some s =>
        have := hall s (List.mem_of_getElem? hs)
        simp [room?, this]
    have hw : findWhole Q = some 0 := by
      unfold findWhole
      rw [List.find?_range_eq_some]
      refine ⟨?_, List.mem_range.2 h1, fun j hj => by omega⟩
      rw [decide_eq_true_eq, List.getElem?_eq_getElem h1]
      simp [hall _ (List.getElem_mem h1)]
    have hfi : find Q 3 = some (0, 0) := by unfold find; rw [hf, hw]; rfl
    unfold takeA
    rw [if_neg (by decide), hfi]
    rfl
/-! ### marking -/
/-- of a slab's taken blocks those whose line is wanted -/
def keepT (f : Int → Bool) (i : Nat) (s : Slab) : List Bool := (List.range 8).map fun k => s.at k && f (lineAt i k s.cls)
def keepS (f : Int → Bool) (i : Nat) (s : Slab) : Slab := ⟨if (keepT f i s).count true = 0 then -1 else s.cls, keepT f i s⟩
def keepP (f : Int → Bool) (P : Pool) : Pool := P.mapIdx (keepS f)
theorem keepP_get (f : Int → Bool) (P : Pool) (i : Nat) : (keepP f P)[i]? = P[i]?.map (keepS f i) := by
  unfold keepP
  rw [List.getElem?_mapIdx]
theorem keepT_at (f : Int → Bool) (i : Nat) (s : Slab) {k : Nat} (hk : k < 8) : (keepS f i s).at k = (s.at k && f (lineAt i k s.cls)) := by
  unfold Slab.at keepS keepT
  simp [List.getD, hk, Slab.at]
theorem keepS_len (f : Int → Bool) (i : Nat) (s : Slab) : (keepS f i s).taken.length = 8 := by simp [keepS, keepT]
theorem slab_ext {s t : Slab} (hs : s.taken.length = 8) (ht : t.taken.length = 8) (hc : s.cls = t.cls) (h : ∀ k, k < 8 → s.at k = t.at k) : s = t := by
  obtain ⟨a, l⟩ := s
  obtain ⟨b, m⟩ := t
  simp only at hs ht hc
  subst hc
  congr 1
  apply List.ext_getElem
  · omega
  · intro k h1 h2
    have := h k (by omega)
    unfold Slab.at List.getD at this
    simp only at this
    rw [List.getElem?_eq_getElem h1, List.getElem?_eq_getElem h2] at this
    simpa using this
theorem keepS_cls {f : Int → Bool} {i : Nat} {s : Slab} : (keepS f i s).cls = -1 ∨ (keepS f i s).cls = s.cls := by
  unfold keepS
  simp only
  split
  · exact .inl rfl
  · exact .inr rfl
theorem keepS_yes {f : Int → Bool} {i : Nat} {s : Slab} {k : Nat} (h : (keepS f i s).at k = true) : (keepS f i s).cls = s.cls := by
  have := n_pos h
  unfold Slab.n keepS at this
  unfold keepS
  simp only at this ⊢
  rw [if_neg (by omega)]
theorem keep_none (P : Pool) : keepP (fun _ => false) P = newPool P.length := by
  apply List.ext_getElem?
  intro i
  rw [keepP_get]
  unfold newPool
  rw [List.getElem?_replicate]
  by_cases hi : i < P.length
  · rw [List.getElem?_eq_getElem hi, if_pos hi]
    simp only [Option.map_some, Option.some.injEq]
    have hT : keepT (fun _ => false) i P[i] = List.replicate 8 false := by
      unfold keepT
      simp
      rfl
    unfold keepS
    rw [hT]
    rfl
  · rw [List.getElem?_eq_none (by omega), if_neg hi]
    rfl
theorem keep_all {P : Pool} (hP : Ok P) {f : Int → Bool} (h : ∀ x ∈ takenOf P, f x.1 = true) : keepP f P = P := by
  apply List.ext_getElem?
  intro i
  rw [keepP_get]
  cases hs : P[i]? with
  | none => rfl
  | some s =>
    simp only [Option.map_some, Option.some.injEq]
    have ho := hP s (List.mem_of_getElem? hs)
    have hat : ∀ k, k < 8 → (keepS f i s).at k = s.at k := fun k hk => by
      rw [keepT_at f i s hk]
      cases ha : s.at k with
      | false => rfl
      | true =>
        have := h _ (mem_takenOf.2 ⟨i, s, k, hs, ho.fits k (at_some ha), ha, rfl⟩)
        simp only at this
        rw [this]
        rfl
    refine slab_ext (keepS_len f i s) ho.len ?_ hat
    rcases keepS_cls (f := f) (i := i) (s := s) with hc | hc
    · rw [hc]
      refine (whole_slab ho fun k hk => ?_).symm
      have h8 : k < 8 := by have := many_cases s.cls; omega
      cases ha : s.at k with
      | false => rfl
      | true =>
        exfalso
        have h1 := hat k h8
        rw [ha] at h1
        have h2 := keepS_yes h1
        rw [hc] at h2
        have := many_cls hk
        omega
    · exact hc
theorem mark_step {P : Pool} (hP : Ok P) (hl : P.length ≤ 32) {f : Int → Bool} {x : Int × Int} (hx : x ∈ takenOf P) (hf : f x.1 = false) :
    markA (keepP f P) x.1 x.2 = 0 ∧ markP (keepP f P) x.1 x.2 = keepP (fun l => f l || l == x.1) P ∧ markA (keepP (fun l => f l || l == x.1) P) x.1 x.2 = 7 := by
  obtain ⟨i, s, k, hs, h1, h2, rfl⟩ := mem_takenOf.1 hx
  simp only at hf ⊢
  have hi : i < P.length := (List.getElem?_eq_some_iff.1 hs).1
  have hc := many_cls h1
  have hm := many_span hc
  have ho := hP s (List.mem_of_getElem? hs)
  have e1 := slabOf_lineAt (i := i) (by omega) hc h1
  have e2 := idx_starts (i := i) (by omega) hc h1
  have hh : home (lineAt i k s.cls) s.cls = true := by
    unfold home
    rw [decide_eq_true_eq, e1, starts_eq (by omega)]
    exact List.mem_map.2 ⟨k, List.mem_range.2 h1, rfl⟩
  have hlen : ∀ g, (keepP g P).length = P.length := fun g => by simp [keepP]
  have hma : ∀ g, markA (keepP g P) (lineAt i k s.cls) s.cls = if ((keepS g i s).cls ≠ -1 ∧ (keepS g i s).cls ≠ s.cls) ∨ (keepS g i s).at k = true then 7 else 0 := fun g => by
    unfold markA
    rw [if_neg (by rw [hh, e1, hlen]; simp; omega), e1, Int.toNat_natCast, keepP_get, hs]
    simp only [Option.map_some, e2, Int.toNat_natCast]
  have hat1 : (keepS f i s).at k = false := by rw [keepT_at f i s (by omega), hf]; simp
  have hat2 : (keepS (fun l => f l || l == lineAt i k s.cls) i s).at k = true := by rw [keepT_at _ i s (by omega), h2]; simp
  have hk0 : markA (keepP f P) (lineAt i k s.cls) s.cls = 0 := by
    rw [hma f, if_neg]
    rw [not_or]
    refine ⟨?_, by rw [hat1]; simp⟩
    have := keepS_cls (f := f) (i := i) (s := s)
    omega
  refine ⟨hk0, ?_, ?_⟩
  · unfold markP
    rw [if_pos hk0, e1, Int.toNat_natCast, e2, Int.toNat_natCast]
    apply List.ext_getElem?
    intro j
    rw [List.getElem?_modify, keepP_get, keepP_get]
    cases ht : P[j]? with
    | none => simp
    | some t =>
      simp only [Option.map_some]
      have hj : j < P.length := (List.getElem?_eq_some_iff.1 ht).1
      have hot := hP t (List.mem_of_getElem? ht)
      by_cases hij : i = j
      · subst hij
        rw [hs] at ht
        cases ht
        simp only [if_true, Option.map_eq_map, Option.map_some, Option.some.injEq]
        refine slab_ext (by simp [Slab.take, keepS_len]) (keepS_len _ _ _) ?_ fun m hm8 => ?_
        · rw [keepS_yes hat2]
          rfl
        · rw [take_at (keepS_len f i s) (by omega), keepT_at f i s hm8, keepT_at _ i s hm8]
          by_cases hmk : m = k
          · subst hmk
            simp [h2]
          · have hne : (lineAt i m s.cls == lineAt i k s.cls) = false := by
              rw [beq_eq_false_iff_ne]
              exact fun h => hmk (lineAt_inj hc h)
            simp [hmk, hne]
      · simp only [if_neg hij, Option.map_eq_map, Option.map_some, Option.some.injEq]
        have hT : keepT f j t = keepT (fun l => f l || l == lineAt i k s.cls) j t := by
          unfold keepT
          apply List.map_congr_left
          intro m _
          cases ha : t.at m with
          | false => rfl
          | true =>
            have hmm := hot.fits m (at_some ha)
            have hne : (lineAt j m t.cls == lineAt i k s.cls) = false := by
              rw [beq_eq_false_iff_ne]
              intro h
              have h3 := slabOf_lineAt (i := j) (by omega) (many_cls hmm) hmm
              rw [h, e1] at h3
              omega
            simp [hne]
        unfold keepS
        rw [hT]
  · rw [hma, if_pos (.inr hat2)]
/-- what has been marked when the first j are still to come -/
def marked (t : List (Int × Int)) (k j : Nat) (l : Int) : Bool := (List.range t.length).any fun m => decide (j ≤ m) && ((t[(m + k) % t.length]?).map Prod.fst == some l)
theorem marked_start (t : List (Int × Int)) (k : Nat) : marked t k t.length = fun _ => false := by
  funext l
  unfold marked
  rw [List.any_eq_false]
  intro m hm
  have := List.mem_range.1 hm
  simp
  omega
theorem mod_inj {n k a b : Nat} (ha : a < n) (hb : b < n) (h : (a + k) % n = (b + k) % n) : a = b := by
  have h1 : (a + k) % n = ((a + k % n)) % n := by simp [Nat.add_mod]
  have h2 : (b + k) % n = ((b + k % n)) % n := by simp [Nat.add_mod]
  have hk : k % n < n := Nat.mod_lt _ (by omega)
  rw [h1, h2] at h
  have c1 : (a + k % n) % n = if a + k % n < n then a + k % n else a + k % n - n := by
    split
    · exact Nat.mod_eq_of_lt (by assumption)
    · rw [Nat.mod_eq_sub_mod (by omega), Nat.mod_eq_of_lt (by omega)]
  have c2 : (b + k % n) % n = if b + k % n < n then b + k % n else b + k % n - n := by
    split
    · exact Nat.mod_eq_of_lt (by assumption)
    · rw [Nat.mod_eq_sub_mod (by omega), Nat.mod_eq_of_lt (by omega)]
  rw [c1, c2] at h
  split at h <;> split at h <;> omega
theorem marked_step {t : List (Int × Int)} (ht : t.Pairwise (fun a b => a.1 < b.1)) {k j : Nat} (hj : j < t.length) {x : Int × Int} (hx : t[(j + k) % t.length]? = some x) :
    marked t k (j + 1) x.1 = false ∧ marked t k j = fun l => marked t k (j + 1) l || l == x.1 := by
  constructor
  · unfold marked
    rw [List.any_eq_false]
    intro m hm
    have hm2 := List.mem_range.1 hm
    simp only [Bool.and_eq_true, decide_eq_true_eq, beq_iff_eq, not_and]
    intro hjm he
    rw [Option.map_eq_some_iff] at he
    obtain ⟨y, hy, e⟩ := he
    obtain ⟨p1, q1⟩ := List.getElem?_eq_some_iff.1 hx
    obtain ⟨p2, q2⟩ := List.getElem?_eq_some_iff.1 hy
    have hne : (m + k) % t.length ≠ (j + k) % t.length := fun h => by have := mod_inj hm2 hj h; omega
    rw [List.pairwise_iff_getElem] at ht
    rcases Nat.lt_or_gt_of_ne hne with h | h
    · have := ht _ _ p2 p1 h
      rw [q1, q2] at this
      omega
    · have := ht _ _ p1 p2 h
      rw [q1, q2] at this
      omega
  · funext l
    unfold marked
    rw [Bool.eq_iff_iff, Bool.or_eq_true, List.any_eq_true, List.any_eq_true, beq_iff_eq]
    constructor
    · rintro ⟨m, hm, h⟩
      rw [Bool.and_eq_true, decide_eq_true_eq, beq_iff_eq] at h
      rcases Nat.eq_or_lt_of_le h.1 with e | e
      · subst e
        rw [hx] at h
        right
        simpa using h.2.symm
      · exact .inl ⟨m, hm, by rw [Bool.and_eq_true, decide_eq_true_eq, beq_iff_eq]; exact ⟨e, h.2⟩⟩
    · rintro (⟨m, hm, h⟩ | rfl)
      · rw [Bool.and_eq_true, decide_eq_true_eq, beq_iff_eq] at h
        exact ⟨m, hm, by rw [Bool.and_eq_true, decide_eq_true_eq, beq_iff_eq]; exact ⟨by omega, h.2⟩⟩
      · exact ⟨j, List.mem_range.2 hj, by rw [Bool.and_eq_true, decide_eq_true_eq, beq_iff_eq, hx]; exact ⟨Nat.le_refl _, rfl⟩⟩
theorem marked_all {t : List (Int × Int)} {k : Nat} (hk : k < t.length) : ∀ x ∈ t, marked t k 0 x.1 = true := by
  intro x hx
  obtain ⟨p, hp, e⟩ := List.getElem_of_mem hx
  unfold marked
  rw [List.any_eq_true]
  by_cases h : k ≤ p
  · refine ⟨p - k, List.mem_range.2 (by omega), ?_⟩
    rw [Bool.and_eq_true, decide_eq_true_eq, beq_iff_eq, show p - k + k = p by omega, Nat.mod_eq_of_lt hp, List.getElem?_eq_getElem hp, e]
    exact ⟨Nat.zero_le _, rfl⟩
  · refine ⟨p + t.length - k, List.mem_range.2 (by omega), ?_⟩
    rw [Bool.and_eq_true, decide_eq_true_eq, beq_iff_eq, show p + t.length - k + k = p + t.length by omega, Nat.add_mod_right, Nat.mod_eq_of_lt hp, List.getElem?_eq_getElem hp, e]
    exact ⟨Nat.zero_le _, rfl⟩
end Go.Proofs.FuPool
