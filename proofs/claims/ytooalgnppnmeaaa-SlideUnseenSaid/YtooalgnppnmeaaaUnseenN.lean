/- SlideUnseen: calls on the two heaps. -/
import Derived.Test.YtooalgnppnmeaaaSlideTermsW
import Derived.Test.YtooalgnppnmeaaaUnseen
import Derived.Test.YtooalgnppnmeaaaUnseenM
namespace Go.Proofs.Ytooalgnppnmeaaa
open Go.RowKit
section
variable {w0 : Nat} {F G : Nat → Prop} {hb gb : Nat} {tx ty : Value} {xs ys : List Int} {ns ms : List Nd} {wr w' : World}
/-- What a call on the first heap leaves. -/
def UM.CallH (w0 : Nat) (F G : Nat → Prop) (hb gb : Nat) (tx ty : Value) (xs ys : List Int) (ns' ms : List Nd) (wr w' : World) : Prop := UM w0 (Grow F wr w') G hb gb tx ty xs ys ns' ms w' ∧ Kept F wr w'
theorem UM.makeH (u : UM w0 F G hb gb tx ty xs ys ns ms wr) (hw : w0 ≤ wr.heap.size) {D : Nat → Prop} {sym : Int} {v : Value} {l : List Int} {n : Nat} (hn : n = l.length) (hl : RowR wr 1 D v n (ints l)) {ns' : List Nd} {a : Int} (hp : makeP 2000 ns sym l = (ns', a, 0)) :
    Calls Try.prog 22 #[.pointer (some ⟨hb, 0, none⟩), .int .i64 sym, v] wr fun e w' => e = .returned (.tuple #[.int .i64 a, .int .i64 0]) ∧ UM.CallH w0 F G hb gb tx ty xs ys ns' ms wr w' := by
  subst hn
  refine (make_any u.h sym v l hl (by decide) u.bF).mono ?_
  rintro e w' ⟨rfl, hh, hk⟩
  rw [hp] at hh ⊢
  exact ⟨rfl, u.stepH hw hh hk, hk⟩
theorem UM.makeG (u : UM w0 F G hb gb tx ty xs ys ns ms wr) (hw : w0 ≤ wr.heap.size) {D : Nat → Prop} {sym : Int} {v : Value} {l : List Int} {n : Nat} (hn : n = l.length) (hl : RowR wr 1 D v n (ints l)) {ms' : List Nd} {a : Int} (hp : makeP 2000 ms sym l = (ms', a, 0)) :
    Calls Try.prog 22 #[.pointer (some ⟨gb, 0, none⟩), .int .i64 sym, v] wr fun e w' => e = .returned (.tuple #[.int .i64 a, .int .i64 0]) ∧ UM w0 F (Grow G wr w') hb gb tx ty xs ys ns ms' w' ∧ Kept G wr w' := by
  refine (u.swap.makeH hw hn hl hp).mono ?_
  rintro e w' ⟨rfl, hh, hk⟩
  exact ⟨rfl, hh.swap, hk⟩
theorem UM.pointH (u : UM w0 F G hb gb tx ty xs ys ns ms wr) (hw : w0 ≤ wr.heap.size) (hs : Sane ns) (hlen : ns.length ≤ 4000) (p t : Int) :
    Calls Try.prog 51 #[.pointer (some ⟨hb, 0, none⟩), .int .i64 p, .int .i64 t] wr fun e w' => e = .returned (.int .i64 (pointP ns p t).2) ∧ UM.CallH w0 F G hb gb tx ty xs ys (pointP ns p t).1 ms wr w' := by
  refine (point_any u.h hs hlen p t).mono ?_
  rintro e w' ⟨rfl, hh, hk⟩
  exact ⟨rfl, u.stepH hw (hh.mono (fun _ hk _ => .inl hk)) hk, hk⟩
theorem UM.pointG (u : UM w0 F G hb gb tx ty xs ys ns ms wr) (hw : w0 ≤ wr.heap.size) (hs : Sane ms) (hlen : ms.length ≤ 4000) (p t : Int) :
    Calls Try.prog 51 #[.pointer (some ⟨gb, 0, none⟩), .int .i64 p, .int .i64 t] wr fun e w' => e = .returned (.int .i64 (pointP ms p t).2) ∧ UM w0 F (Grow G wr w') hb gb tx ty xs ys ns (pointP ms p t).1 w' ∧ Kept G wr w' := by
  refine (u.swap.pointH hw hs hlen p t).mono ?_
  rintro e w' ⟨rfl, hh, hk⟩
  exact ⟨rfl, hh.swap, hk⟩
end
end Go.Proofs.Ytooalgnppnmeaaa
