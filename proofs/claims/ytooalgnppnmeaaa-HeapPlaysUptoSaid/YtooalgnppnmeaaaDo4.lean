/- do: Point. -/
import Derived.Test.YtooalgnppnmeaaaDo2
namespace Go.Proofs.Ytooalgnppnmeaaa
open Go.RowKit

section
variable {F1 F2 : Nat → Prop} {hb rb : Nat} {room : Int} {ns : List Nd} {w : World}
set_option maxRecDepth 100000 in
set_option maxHeartbeats 2000000 in
theorem do_4 (b : Both w F1 F2 hb rb room ns ns) (hg : Good room ns) (hr : room ≤ 4000) (x : Opr) (lv nv : Value) (hx : x.kind = 4) :
    Calls Try.prog 37 #[.pointer (some ⟨hb, 0, none⟩), .pointer (some ⟨rb, 0, none⟩), opVal x lv nv] w (RetDo w F1 F2 hb rb room) := by
  have hl4 := hg.len4 hr
  have HB := Lib.hid b
  have HG := Lib.hid hg
  clear b hg
  obtain ⟨kind, n, m, two, l, nodes⟩ := x
  dsimp only [opVal] at hx ⊢
  subst hx
  go_enter Try.func37, Try.ntmps37
  go_wp2_with fail
  obtain ⟨W0, hW0⟩ : ∃ W0, w.alloc (.cells #[.int .i64 4, .int .i64 n, .int .i64 m, .bool two, lv, nv] 63) = W0 := ⟨_, rfl⟩
  have K0 : Hid (Kept No w W0) := hW0 ▸ (Kept.refl No w).alloc _
  have g0 : W0.heap[w.heap.size]? = some (.cells #[.int .i64 4, .int .i64 n, .int .i64 m, .bool two, lv, nv] 63 (0, 0)) := hW0 ▸ heap_alloc_new w _
  rw [hW0]
  clear hW0
  have k1 : Kept No W0 W0.drew := (Kept.refl No W0).drew
  obtain ⟨c0, c1, c2, c3, c4, c5⟩ := cells6 (x := ⟨4, n, m, two, l, nodes⟩) g0
  have hbx := (Array.getElem?_eq_some_iff.1 g0).1
  have HB0 := Lib.hid (HB.out.keptNo (K0.out.thenNo k1))
  have G0 := Lib.hid (k1.blk g0 (fun h => h))
  generalize hbx' : w.heap.size = bx at *
  have nf : Hid (¬ F1 bx ∧ ¬ F2 bx) := ⟨fun h => by have := HB.out.b1 bx h; omega, fun h => by have := HB.out.b2 bx h; omega⟩
  clear g0 k1
  go_region_law (first | (go_simp; go_at_call 51; refine (point_any HB0.out.h HG.out.sane hl4 n m).mono ?_; rintro e w3 ⟨rfl, h3, k3⟩; have HB3 := Lib.hid (HB0.out.sameH h3 k3); have K3 := Lib.hid k3; obtain ⟨d0, d1, d2, d3, d4, d5⟩ := cells6 (x := ⟨4, n, m, two, l, nodes⟩) (k3.blk G0.out nf.out.1); clear h3 k3) | (go_simp; go_at_call 65; refine (rpoint_any HB3.out.r HG.out.sane hl4 n m).mono ?_; rintro e w4 ⟨rfl, h4, k4⟩; have HB4 := Lib.hid (HB3.out.sameR h4 k4); have K4 := Lib.hid k4; clear h4 k4))
  all_goals
    have HF := Lib.hid (show RetDo w F1 F2 hb rb room (.returned (.bool true)) w4 from ⟨rfl, F1, F2, _, HB4.out, HG.out.pointP n m, fun _ h => .inl h, fun _ h => .inl h, (((K0.out.thenNo ((Kept.refl No W0).drew)).all.trans K3.out (fun _ _ h => .inl h)).trans K4.out (fun _ _ h => .inr h))⟩)
    go_wp2_with fail
    go_ret
    exact HF.out
end
end Go.Proofs.Ytooalgnppnmeaaa
