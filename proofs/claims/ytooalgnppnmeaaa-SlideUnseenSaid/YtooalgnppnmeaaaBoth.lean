/- Two heaps side by side. -/
import Derived.Test.YtooalgnppnmeaaaRRep
import Derived.Test.YtooalgnppnmeaaaH1
namespace Go.Proofs.Ytooalgnppnmeaaa
open Go.RowKit

/-- The program's heap, and the document's, in blocks apart. -/
structure Both (w : World) (F1 F2 : Nat → Prop) (hb rb : Nat) (room : Int) (ns ms : List Nd) : Prop where
  h : HeapO w F1 hb room ns
  r : RHeapO w F2 rb room ms
  d : ∀ k, F1 k → ¬ F2 k
  b1 : Bnd F1 w
  b2 : Bnd F2 w
section
variable {w w' : World} {F1 F2 G : Nat → Prop} {hb rb : Nat} {room : Int} {ns ms ns' : List Nd}
theorem Both.stepH (b : Both w F1 F2 hb rb room ns ms) (h : HeapO w' (Grow F1 w w') hb room ns') (hk : Kept F1 w w') : Both w' (Grow F1 w w') F2 hb rb room ns' ms :=
  ⟨h, b.r.kept hk (fun k h2 h1 => b.d k h1 h2), fun k h1 h2 => by
    rcases h1 with h1 | h1
    · exact b.d k h1 h2
    · have := b.b2 k h2; omega, b.b1.grow hk.size, b.b2.le hk.size⟩
theorem Both.stepR (b : Both w F1 F2 hb rb room ns ms) (h : RHeapO w' (Grow F2 w w') rb room ns') (hk : Kept F2 w w') : Both w' F1 (Grow F2 w w') hb rb room ns ns' :=
  ⟨b.h.kept hk b.d, h, fun k h1 h2 => by
    rcases h2 with h2 | h2
    · exact b.d k h1 h2
    · have := b.b1 k h1; omega, b.b1.le hk.size, b.b2.grow hk.size⟩
theorem Both.sameH (b : Both w F1 F2 hb rb room ns ms) (h : HeapO w' F1 hb room ns') (hk : Kept F1 w w') : Both w' F1 F2 hb rb room ns' ms :=
  ⟨h, b.r.kept hk (fun k h2 h1 => b.d k h1 h2), b.d, b.b1.le hk.size, b.b2.le hk.size⟩
theorem Both.sameR (b : Both w F1 F2 hb rb room ns ms) (h : RHeapO w' F2 rb room ns') (hk : Kept F2 w w') : Both w' F1 F2 hb rb room ns ns' :=
  ⟨b.h.kept hk b.d, h, b.d, b.b1.le hk.size, b.b2.le hk.size⟩
theorem Both.kept (b : Both w F1 F2 hb rb room ns ms) (hk : Kept G w w') (d1 : ∀ k, F1 k → ¬ G k) (d2 : ∀ k, F2 k → ¬ G k) : Both w' F1 F2 hb rb room ns ms :=
  ⟨b.h.kept hk d1, b.r.kept hk d2, b.d, b.b1.le hk.size, b.b2.le hk.size⟩
theorem Both.keptNo (b : Both w F1 F2 hb rb room ns ms) (hk : Kept No w w') : Both w' F1 F2 hb rb room ns ms := b.kept hk (fun _ _ hn => hn) (fun _ _ hn => hn)
end
end Go.Proofs.Ytooalgnppnmeaaa
