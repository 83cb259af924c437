/- The contracts of package code and of its reference. -/
import Derived.Test.YtpenmnngjfncgaaLend
import Derived.Test.YtpenmnngjfncgaaMemB
import Derived.Test.YtpenmnngjfncgaaCodeP
import Derived.WalkSpells
namespace Go.Proofs.Ytpenmnngjfncgaa
open Go.RowKit Go.Proofs.FuMem Go.Proofs.FuCode
set_option maxRecDepth 100000

/-- what a function hands back that makes bytes of its own -/
def MadeB (w : World) (l : List UInt8) (v : Value) (w' : World) : Prop := ∃ A c, v = .slice A l.length c ∧ w'.ownsRow w.heap.size 5 1 v l.length (l.map B) ∧ Only [] w w'
theorem madeB_of {w w' : World} {g n c : Nat} {l : List UInt8} (h : OwnB 5 w' w.heap.size g n c l) (o : Only [] w w') : MadeB w l (.slice (some ⟨g, 0, none⟩) n c) w' := by
  have hl := h.len
  subst hl
  exact ⟨_, _, rfl, h, o⟩
theorem madeB_own {w w' : World} {A : Option Addr} {n c : Nat} {l : List UInt8} (hl : l.length = n) (h : w'.ownsRow w.heap.size 5 1 (.slice A n c) n (l.map B)) (o : Only [] w w') : MadeB w l (.slice A n c) w' := by
  subst hl
  exact ⟨_, _, rfl, h, o⟩
theorem own_empty (w : World) (e : TypeId) : (w.alloc (.cells #[] e)).ownsRow w.heap.size e 1 (.slice (some ⟨w.heap.size, 0, none⟩) 0 0) 0 [] :=
  ⟨rfl, .inr ⟨_, 0, #[], rfl, Nat.le_refl _, heap_alloc_new w _, Nat.le_refl _, Nat.zero_le _, rfl, rfl⟩⟩
end Go.Proofs.Ytpenmnngjfncgaa
