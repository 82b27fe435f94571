/- do: two heaps side by side; the kinds that hand nothing out. -/
import Derived.Test.YtooalgnppnmeaaaRH3
import Derived.Test.YtooalgnppnmeaaaRH4
import Derived.Test.YtooalgnppnmeaaaRH6
import Derived.Test.YtooalgnppnmeaaaL11c
import Derived.Test.YtooalgnppnmeaaaSpoil
namespace Go.Proofs.Ytooalgnppnmeaaa
open Go.RowKit

/-- The program's heap, and the document's, in blocks apart. -/
structure Both (w : World) (F1 F2 : Nat → Prop) (hb rb : Nat) (room : Int) (ns ms : List Nd) : Prop where
  h : HeapO w F1 hb room ns
  r : RHeapO w F2 rb room ms
  d : ∀ k, F1 k → ¬ F2 k
  b1 : Bnd F1 w
  b2 : Bnd F2 w
section
variable {w w' : World} {F1 F2 G : Nat → Prop} {hb rb : Nat} {room : Int} {ns ms ns' : List Nd}
theorem Both.stepH (b : Both w F1 F2 hb rb room ns ms) (h : HeapO w' (Grow F1 w w') hb room ns') (hk : Kept F1 w w') : Both w' (Grow F1 w w') F2 hb rb room ns' ms :=
  ⟨h, b.r.kept hk (fun k h2 h1 => b.d k h1 h2), fun k h1 h2 => by
    rcases h1 with h1 | h1
    · exact b.d k h1 h2
    · have := b.b2 k h2; omega, b.b1.grow hk.size, b.b2.le hk.size⟩
theorem Both.stepR (b : Both w F1 F2 hb rb room ns ms) (h : RHeapO w' (Grow F2 w w') rb room ns') (hk : Kept F2 w w') : Both w' F1 (Grow F2 w w') hb rb room ns ns' :=
  ⟨b.h.kept hk b.d, h, fun k h1 h2 => by
    rcases h2 with h2 | h2
    · exact b.d k h1 h2
    · have := b.b1 k h1; omega, b.b1.le hk.size, b.b2.grow hk.size⟩
theorem Both.sameH (b : Both w F1 F2 hb rb room ns ms) (h : HeapO w' F1 hb room ns') (hk : Kept F1 w w') : Both w' F1 F2 hb rb room ns' ms :=
  ⟨h, b.r.kept hk (fun k h2 h1 => b.d k h1 h2), b.d, b.b1.le hk.size, b.b2.le hk.size⟩
theorem Both.sameR (b : Both w F1 F2 hb rb room ns ms) (h : RHeapO w' F2 rb room ns') (hk : Kept F2 w w') : Both w' F1 F2 hb rb room ns ns' :=
  ⟨b.h.kept hk b.d, h, b.d, b.b1.le hk.size, b.b2.le hk.size⟩
theorem Both.kept (b : Both w F1 F2 hb rb room ns ms) (hk : Kept G w w') (d1 : ∀ k, F1 k → ¬ G k) (d2 : ∀ k, F2 k → ¬ G k) : Both w' F1 F2 hb rb room ns ms :=
  ⟨b.h.kept hk d1, b.r.kept hk d2, b.d, b.b1.le hk.size, b.b2.le hk.size⟩
theorem Both.keptNo (b : Both w F1 F2 hb rb room ns ms) (hk : Kept No w w') : Both w' F1 F2 hb rb room ns ms := b.kept hk (fun _ _ hn => hn) (fun _ _ hn => hn)
end

/-- A call that did the same on both. -/
def RetDo (w : World) (F1 F2 : Nat → Prop) (hb rb : Nat) (room : Int) (e : Ending) (w' : World) : Prop :=
  e = .returned (.bool true) ∧ ∃ F1' F2' ns', Both w' F1' F2' hb rb room ns' ns' ∧ Good room ns' ∧ (∀ k, F1' k → F1 k ∨ w.heap.size ≤ k) ∧ (∀ k, F2' k → F2 k ∨ w.heap.size ≤ k) ∧ Kept (fun k => F1 k ∨ F2 k) w w'
theorem RetDo.same {w w' : World} {F1 F2 : Nat → Prop} {hb rb : Nat} {room : Int} {ns : List Nd} (b : Both w' F1 F2 hb rb room ns ns) (g : Good room ns) (hk : Kept (fun k => F1 k ∨ F2 k) w w') : RetDo w F1 F2 hb rb room (.returned (.bool true)) w' :=
  ⟨rfl, F1, F2, ns, b, g, fun _ h => .inl h, fun _ h => .inl h, hk⟩

/-- One call of a script. -/
structure Opr where
  kind : Int
  n : Int
  m : Int
  two : Bool
  l : List Int
  nodes : List Nd
def opVal (x : Opr) (lv nv : Value) : Value := .agg #[.int .i64 x.kind, .int .i64 x.n, .int .i64 x.m, .bool x.two, lv, nv]
def opCells (x : Opr) (lv nv : Value) : Array Value := #[.int .i64 x.kind, .int .i64 x.n, .int .i64 x.m, .bool x.two, lv, nv]
theorem cells6 {w : World} {b : Nat} {x : Opr} {lv nv : Value} {t : TypeId} (h : w.heap[b]? = some (.cells #[.int .i64 x.kind, .int .i64 x.n, .int .i64 x.m, .bool x.two, lv, nv] t (0, 0))) :
    w.cell? ⟨b, 0, none⟩ = some (.int .i64 x.kind) ∧ w.cell? ⟨b, 1, none⟩ = some (.int .i64 x.n) ∧ w.cell? ⟨b, 2, none⟩ = some (.int .i64 x.m) ∧ w.cell? ⟨b, 3, none⟩ = some (.bool x.two) ∧ w.cell? ⟨b, 4, none⟩ = some lv ∧ w.cell? ⟨b, 5, none⟩ = some nv :=
  ⟨by rw [cell_of_row _ _ _ _ _ _ h]; rfl, by rw [cell_of_row _ _ _ _ _ _ h]; rfl, by rw [cell_of_row _ _ _ _ _ _ h]; rfl, by rw [cell_of_row _ _ _ _ _ _ h]; rfl, by rw [cell_of_row _ _ _ _ _ _ h]; rfl, by rw [cell_of_row _ _ _ _ _ _ h]; rfl⟩
theorem Good.makeP {room : Int} {ns : List Nd} (h : Good room ns) (sym : Int) (l : List Int) : Good room (makeP room ns sym l).1 := by
  unfold Ytooalgnppnmeaaa.makeP
  split
  · exact h
  · split
    · exact h
    · rename_i h4
      split
      · exact h
      · exact h.make (by omega) (by omega) (by simpa using h4) (by omega)
theorem Good.pointP {room : Int} {ns : List Nd} (h : Good room ns) (a b : Int) : Good room (pointP ns a b).1 := by
  unfold Ytooalgnppnmeaaa.pointP
  split
  · exact h
  · rename_i h1
    split
    · exact h
    · rename_i h2
      refine h.point ?_ ?_ h2
      · cases hq : inR ns a with
        | true => rfl
        | false => exact absurd (.inl hq) h1
      · cases hq : inR ns b with
        | true => rfl
        | false => exact absurd (.inr hq) h1
theorem Good.markP {room : Int} {ns : List Nd} (h : Good room ns) (a m : Int) : Good room (markP ns a m).1 := by
  unfold Ytooalgnppnmeaaa.markP
  split
  · exact h
  · rename_i n hn
    split
    · exact h
    · rename_i hp
      split
      · exact h
      · exact h.mark hn (by simpa using hp) (by omega)
theorem Good.refillP {room : Int} {ns : List Nd} (h : Good room ns) (l : List Nd) : Good room (refillP room ns l).1 := by
  unfold Ytooalgnppnmeaaa.refillP
  split
  · exact h
  · rename_i h1
    split
    · exact h
    · rename_i h2
      split
      · exact h
      · rename_i h3
        exact ⟨Classical.not_not.1 h2, Classical.not_not.1 h3, by dsimp only; omega⟩

section
variable {F1 F2 : Nat → Prop} {hb rb : Nat} {room : Int} {ns : List Nd} {w : World}
set_option maxRecDepth 100000 in
set_option maxHeartbeats 2000000 in
theorem do_5 (b : Both w F1 F2 hb rb room ns ns) (hg : Good room ns) (_hr : room ≤ 4000) (x : Opr) (lv nv : Value) (hx : x.kind = 5) :
    Calls Try.prog 37 #[.pointer (some ⟨hb, 0, none⟩), .pointer (some ⟨rb, 0, none⟩), opVal x lv nv] w (RetDo w F1 F2 hb rb room) := by
  have HB := Lib.hid b
  have HG := Lib.hid hg
  clear b hg
  obtain ⟨kind, n, m, two, l, nodes⟩ := x
  dsimp only [opVal] at hx ⊢
  subst hx
  go_enter Try.func37, Try.ntmps37
  go_wp2_with fail
  obtain ⟨W0, hW0⟩ : ∃ W0, w.alloc (.cells #[.int .i64 5, .int .i64 n, .int .i64 m, .bool two, lv, nv] 63) = W0 := ⟨_, rfl⟩
  have K0 : Hid (Kept No w W0) := hW0 ▸ (Kept.refl No w).alloc _
  have g0 : W0.heap[w.heap.size]? = some (.cells #[.int .i64 5, .int .i64 n, .int .i64 m, .bool two, lv, nv] 63 (0, 0)) := hW0 ▸ heap_alloc_new w _
  rw [hW0]
  clear hW0
  have k1 : Kept No W0 W0.drew := (Kept.refl No W0).drew
  obtain ⟨c0, c1, c2, c3, c4, c5⟩ := cells6 (x := ⟨5, n, m, two, l, nodes⟩) g0
  have hbx := (Array.getElem?_eq_some_iff.1 g0).1
  have HB0 := Lib.hid (HB.out.keptNo (K0.out.thenNo k1))
  have G0 := Lib.hid (k1.blk g0 (fun h => h))
  generalize hbx' : w.heap.size = bx at *
  have nf : Hid (¬ F1 bx ∧ ¬ F2 bx) := ⟨fun h => by have := HB.out.b1 bx h; omega, fun h => by have := HB.out.b2 bx h; omega⟩
  clear g0 k1
  go_region_law (first | (go_simp; go_at_call 55; refine (mark_any HB0.out.h n m).mono ?_; rintro e w3 ⟨rfl, h3, k3⟩; have HB3 := Lib.hid (HB0.out.sameH h3 k3); have K3 := Lib.hid k3; obtain ⟨d0, d1, d2, d3, d4, d5⟩ := cells6 (x := ⟨5, n, m, two, l, nodes⟩) (k3.blk G0.out nf.out.1); clear h3 k3) | (go_simp; go_at_call 66; refine (rmark_any HB3.out.r n m).mono ?_; rintro e w4 ⟨rfl, h4, k4⟩; have HB4 := Lib.hid (HB3.out.sameR h4 k4); have K4 := Lib.hid k4; clear h4 k4))
  all_goals
    have HF := Lib.hid (show RetDo w F1 F2 hb rb room (.returned (.bool true)) w4 from ⟨rfl, F1, F2, _, HB4.out, HG.out.markP n m, fun _ h => .inl h, fun _ h => .inl h, (((K0.out.thenNo ((Kept.refl No W0).drew)).all.trans K3.out (fun _ _ h => .inl h)).trans K4.out (fun _ _ h => .inr h))⟩)
    go_wp2_with fail
    go_ret
    exact HF.out
end
end Go.Proofs.Ytooalgnppnmeaaa
