/- Law 6: what Encode makes, in two words. -/
import Derived.Test.YtkhfcghnodggeaaLaw6
import Derived.Test.YtkhfcghnodggeaaBlockH
namespace Go.Proofs.Ytkhfcghnodggeaa
open Go.RowKit Go.Proofs.FuMem Go.Proofs.FuCode Go.Proofs.FuClass Go.Proofs.FuBlock Go.Proofs.FuEq Go.Proofs.FuCrc
set_option maxRecDepth 100000
theorem long_le {ks vs : ByteArray} (h : longB ks vs = false) : ks.size ≤ 2000 ∧ vs.size ≤ 2000 := by
  unfold longB at h
  simp at h
  omega
theorem enc_yes (cls kind : Int) (id ver ep : Nat) (ks vs : ByteArray) (w : World) (hc : -9223372036854775808 ≤ cls ∧ cls ≤ 9223372036854775807) (hi : id < 18446744073709551616) (hv : ver < 18446744073709551616) (he : ep < 18446744073709551616)
    (hl : longB ks vs = false) (hm : may (mkB cls kind id ver ep ks vs) = true) :
    Calls Try.prog 15 #[blockV cls kind id ver ep ks vs] w fun e w' => ∃ g c, e = .returned (.tuple #[.slice (some ⟨g, 0, none⟩) (64 * span cls) c, .int .i64 0]) ∧ w.heap.size ≤ g ∧ OwnB 5 w' w.heap.size g (64 * span cls) c (lines (mkB cls kind id ver ep ks vs)) ∧ Only [] w w' := by
  have hs := long_le hl
  have hf := fine_of hm
  have hsp : 1 ≤ span cls ∧ span cls ≤ 8 := span_pos hf.c0 hf.c3
  refine (block_Encode cls kind id ver ep ks vs w hc hi hv he (by omega) (by omega)).mono ?_
  rw [show enc (mkB cls kind id ver ep ks vs) = (lines (mkB cls kind id ver ep ks vs), 0) from if_pos hm]
  rintro e w' ⟨v, rfl, A, c, hvv, ho, on⟩
  have hn : (lines (mkB cls kind id ver ep ks vs)).length = 64 * span cls := lines_length _
  rw [hn] at hvv ho
  subst hvv
  obtain ⟨g, rfl, hg, _, ho2⟩ := OwnB.of ho (by omega)
  exact ⟨g, c, rfl, hg, ho2, on⟩
theorem enc_no (cls kind : Int) (id ver ep : Nat) (ks vs : ByteArray) (w : World) (hc : -9223372036854775808 ≤ cls ∧ cls ≤ 9223372036854775807) (hi : id < 18446744073709551616) (hv : ver < 18446744073709551616) (he : ep < 18446744073709551616)
    (hl : longB ks vs = false) (hm : may (mkB cls kind id ver ep ks vs) = false) :
    Calls Try.prog 15 #[blockV cls kind id ver ep ks vs] w fun e w' => ∃ A c, e = .returned (.tuple #[.slice A 0 c, .int .i64 3]) ∧ Only [] w w' := by
  have hs := long_le hl
  refine (block_Encode cls kind id ver ep ks vs w hc hi hv he (by omega) (by omega)).mono ?_
  rw [show enc (mkB cls kind id ver ep ks vs) = ([], 3) from if_neg (by rw [hm]; simp)]
  rintro e w' ⟨v, rfl, A, c, hvv, ho, on⟩
  subst hvv
  exact ⟨A, c, rfl, on⟩
end Go.Proofs.Ytkhfcghnodggeaa
