/- The contracts of package block, second part: numbers put and got, heads. -/
import Derived.Test.YtkhfcghnodggeaaBlockC
import Derived.Test.YtkhfcghnodggeaaMemC
import Derived.Test.YtkhfcghnodggeaaSum
import Derived.StillTailTactics
namespace Go.Proofs.FuMem
open Go.RowKit
theorem OwnB.splice_ {e : TypeId} {w w' : World} {base g n c : Nat} {l l2 : List UInt8} (h : OwnB e w base g n c l) {cur : Array Value} (hcur : Blk w g e cur) {off : Nat} (hf : off + l2.length ≤ n) (hb : Blk w' g e (splice cur off (l2.map B))) :
    OwnB e w' base g n c (FuCode.over l off l2) := by
  have hl := h.len
  rcases h.2 with ⟨h', _⟩ | ⟨g', cap', cur', h', hbg, hg, hnc, hcm, hcs, htake⟩
  · cases h'
  · cases h'
    have he : cur' = cur := by
      have : some (Obj.cells cur' e (0, 0)) = some (Obj.cells cur e (0, 0)) := hg.symm.trans hcur
      injection this with this
      injection this
    subst he
    rw [Nat.mul_one] at htake hcs
    refine ⟨by simp [FuCode.over]; omega, .inr ⟨g, c, _, rfl, hbg, hb, hnc, hcm, ?_, ?_⟩⟩
    · rw [splice_size _ _ _ (by simp; omega), hcs, Nat.mul_one]
    · rw [Nat.mul_one]
      unfold splice FuCode.over
      simp only [List.map_append, List.map_take, List.map_drop, ← htake]
      apply List.ext_getElem?
      intro i
      have hcl : cur'.toList.length = c := by simpa using hcs
      simp only [List.getElem?_take, List.getElem?_append, List.length_append, List.length_take, List.length_map, List.getElem?_drop]
      repeat' split
      all_goals first | rfl | omega | (congr 1; omega) | (rw [List.getElem?_eq_none (by omega)])
theorem OwnB.blk {e : TypeId} {w : World} {base g n c : Nat} {l : List UInt8} (h : OwnB e w base g n c l) : ∃ cur, Blk w g e cur ∧ n ≤ cur.size := by
  rcases h.2 with ⟨h', _⟩ | ⟨g', cap', cur', h', hbg, hg, hnc, hcm, hcs, htake⟩
  · cases h'
  · cases h'
    exact ⟨cur', hg, by omega⟩
end Go.Proofs.FuMem
namespace Go.Proofs.Ytkhfcghnodggeaa
open Go.RowKit Go.Proofs.FuMem Go.Proofs.FuCode Go.Proofs.FuClass Go.Proofs.FuBlock Go.Proofs.FuEq Go.Proofs.FuCrc
set_option maxRecDepth 100000
theorem byteSizeD : (Try.prog.info? 5).map (·.size) = some 1 := by kernel_rfl
theorem block_put {base : Nat} (g c : Nat) (l : List UInt8) (a n v : Nat) (w : World) (ho : OwnB 5 w base g 64 c l) (hn : 1 ≤ n ∧ n ≤ 8) (ha : a + n ≤ 64) (hv : v < 256 ^ n) :
    Calls Try.prog 43 #[.slice (some ⟨g, 0, none⟩) 64 c, .int .i64 a, .int .i64 n, .int .u64 v] w fun e w' => e = .returned (.tuple #[]) ∧ OwnB 5 w' base g 64 c (over l a (lay n v)) ∧ Only [g] w w' := by
  have hl := ho.len
  have hv64 : v < 18446744073709551616 := Nat.lt_of_lt_of_le hv (pow_le8 n hn.2)
  have hput : put l (a : Int) (n : Int) v = (over l a (lay n v), 0) := by
    unfold put
    rw [if_neg (by unfold wrong; rw [if_neg (by omega), if_neg (by omega)]; omega), if_neg (by rw [Int.toNat_natCast]; omega), Int.toNat_natCast, Int.toNat_natCast]
  have HP := Lib.hid (code_Put (some ⟨g, 0, none⟩) 64 c l a n v w ho.bs (by omega) (by omega) (by omega) hv64)
  rw [hput] at HP
  have hol : (over l a (lay n v)).length = 64 := by rw [over_length _ _ _ (by rw [lay_length]; omega), hl]
  have HO := Lib.hid ho
  have HL := Lib.hid hol
  have HOV := Lib.hid (over_all (over l a (lay n v)) l 64 hol hl)
  clear ho hl hv hput hol hv64
  generalize over l a (lay n v) = l2 at *
  go_enter Try.func43, Try.ntmps43
  go_wp2_with fail
  refine (HP.out).mono ?_
  rintro e w1 ⟨x, rfl, A1, c1, rfl, b1, o1⟩
  obtain ⟨cur, hcur, hsz⟩ := (HO.out.only o1 (by simp)).blk
  have H1 := Lib.hid (HO.out.only o1 (by simp))
  have B1 := Lib.hid (bs_own b1)
  have O1 := Lib.hid (o1.mono (T := [g]) (by simp))
  have HC := Lib.hid hcur
  clear b1 o1
  go_wp2_with (refine wpList_copy_blk rfl (.tmp 18) (.tmp 19) 27 27 rfl 5 Try.underlying27 byteSizeD g 0 64 c A1 l2.length c1 rfl rfl _ cur hcur (by omega) (l2.map B) B1.out one_B ?_; intro w2 hb2 ho2 hs2)
  go_end0
  refine ⟨rfl, ?_, O1.out.trans ho2 (by simp)⟩
  rw [← List.map_take] at hb2
  have := H1.out.splice_ HC.out (l2 := l2.take 64) (off := 0) (by simp; omega) hb2
  rwa [HOV.out] at this
theorem block_get (A : Option Addr) (n c : Nat) (l : List UInt8) (a k : Nat) (w : World) (h : Bs w A n l) (hn : n ≤ 1000000) (hk : 1 ≤ k ∧ k ≤ 8) (ha : a + k ≤ n) :
    Calls Try.prog 38 #[.slice A n c, .int .i64 a, .int .i64 k] w fun e w' => e = .returned (.int .u64 (num ((l.drop a).take k))) ∧ w = w' := by
  have hl := h.len
  have hget : cget l (a : Int) (k : Int) = (num ((l.drop a).take k), 0) := by
    unfold cget
    rw [if_neg (by unfold wrong; rw [if_neg (by omega), if_neg (by omega)]; omega), Int.toNat_natCast, Int.toNat_natCast]
  have HG := Lib.hid (code_Get A n c l a k w h hn (by omega) (by omega))
  rw [hget] at HG
  clear h hl hget
  generalize num ((l.drop a).take k) = v at *
  go_enter Try.func38, Try.ntmps38
  go_wp2_with fail
  refine (HG.out).mono ?_
  rintro e w' ⟨rfl, rfl⟩
  go_wp2
  go_ret
  exact ⟨rfl, rfl⟩
end Go.Proofs.Ytkhfcghnodggeaa
