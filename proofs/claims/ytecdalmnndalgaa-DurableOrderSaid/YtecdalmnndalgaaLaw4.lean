/- The walks of the statements on geom (without devices). -/
import Derived.Test.YtecdalmnndalgaaGeomRefB
import Derived.Test.YtecdalmnndalgaaLaw2
import Derived.Test.YtecdalmnndalgaaXor8
namespace Go.Proofs.Ytecdalmnndalgaa
open Go.RowKit Go.Proofs.FuMem Go.Proofs.FuCode Go.Proofs.FuCrc Go.Proofs.FuGeom Go.Proofs.FuClass
set_option maxRecDepth 100000

theorem arr64 {w : World} {g : Nat} {t : TypeId} {l : List UInt8} (h : Arr w g t l) (hl : l.length = 64) : Bs w (some ⟨g, 0, none⟩) 64 l := by
  have := h.bs
  rwa [hl] at this
theorem geom_IsClock {A : Option Addr} {n c : Nat} {l : List UInt8} {w : World} (h : Bs w A n l) (hn : n ≤ maxLen) :
    Calls Try.prog 24 #[.slice A n c] w fun e w' => e = .returned (.tuple #[.int .u64 (isClock l).1, .bool (isClock l).2]) ∧ Only [] w w' := by
  by_cases h64 : n = 64
  · subst h64
    obtain ⟨b, off, rfl, _⟩ := h.at_ (by omega)
    exact geom_IsClock_yes b off c l w h
  · rw [isClock_short (by rw [h.len]; exact h64)]
    exact geom_IsClock_no A n c w hn h64
end Go.Proofs.Ytecdalmnndalgaa
