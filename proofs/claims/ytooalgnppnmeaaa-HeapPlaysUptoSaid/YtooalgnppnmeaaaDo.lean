/- do, whatever is asked. -/
import Derived.Test.YtooalgnppnmeaaaDo3
import Derived.Test.YtooalgnppnmeaaaDo2b
import Derived.Test.YtooalgnppnmeaaaDo4
import Derived.Test.YtooalgnppnmeaaaDo7
import Derived.Test.YtooalgnppnmeaaaDo8
import Derived.Test.YtooalgnppnmeaaaDo9
namespace Go.Proofs.Ytooalgnppnmeaaa
open Go.RowKit

/-- What a call of a script brings can be read. -/
structure OprR (w : World) (G : Nat → Prop) (x : Opr) (lv nv : Value) : Prop where
  l : RowR w 1 G lv x.l.length (ints x.l)
  nodes : NodesR w G nv x.nodes
/-- It is not very long. -/
structure OprS (x : Opr) : Prop where
  l : x.l.length ≤ 1048576
  nodes : Bulk x.nodes
theorem do_any {F1 F2 G : Nat → Prop} {hb rb : Nat} {room : Int} {ns : List Nd} {w : World} (b : Both w F1 F2 hb rb room ns ns) (hg : Good room ns) (hr : room ≤ 4000) (x : Opr) (lv nv : Value) (h : OprR w G x lv nv) (hd : ∀ k, G k → ¬ F1 k ∧ ¬ F2 k) (hs : OprS x) :
    Calls Try.prog 37 #[.pointer (some ⟨hb, 0, none⟩), .pointer (some ⟨rb, 0, none⟩), opVal x lv nv] w (RetDo w F1 F2 hb rb room) := by
  by_cases h0 : x.kind < 1 ∨ 9 < x.kind
  · exact do_none b hg x lv nv h0
  have : x.kind = 1 ∨ x.kind = 2 ∨ x.kind = 3 ∨ x.kind = 4 ∨ x.kind = 5 ∨ x.kind = 6 ∨ x.kind = 7 ∨ x.kind = 8 ∨ x.kind = 9 := by omega
  rcases this with e | e | e | e | e | e | e | e | e
  · exact do_1 b hg hr x lv nv e h.l hd hs.l
  · exact do_2 b hg x lv nv e
  · exact do_3 b hg x lv nv e
  · exact do_4 b hg hr x lv nv e
  · exact do_5 b hg hr x lv nv e
  · exact do_6 b hg hr x lv nv e
  · exact do_7 b hg hr x lv nv e
  · exact do_8 b hg x lv nv e
  · exact do_9 b hg hr x lv nv e h.nodes hd hs.nodes
end Go.Proofs.Ytooalgnppnmeaaa
