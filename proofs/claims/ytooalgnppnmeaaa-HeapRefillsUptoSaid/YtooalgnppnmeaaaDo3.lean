/- do: Make. -/
import Derived.Test.YtooalgnppnmeaaaDo2
namespace Go.Proofs.Ytooalgnppnmeaaa
open Go.RowKit

section
variable {F1 F2 G : Nat → Prop} {hb rb : Nat} {room : Int} {ns : List Nd} {w : World}
set_option maxRecDepth 100000 in
set_option maxHeartbeats 2000000 in
theorem do_1 (b : Both w F1 F2 hb rb room ns ns) (hg : Good room ns) (hr : room ≤ 4000) (x : Opr) (lv nv : Value) (hx : x.kind = 1) (hl : RowR w 1 G lv x.l.length (ints x.l)) (hd : ∀ k, G k → ¬ F1 k ∧ ¬ F2 k) (hs : x.l.length ≤ 1048576) :
    Calls Try.prog 37 #[.pointer (some ⟨hb, 0, none⟩), .pointer (some ⟨rb, 0, none⟩), opVal x lv nv] w (RetDo w F1 F2 hb rb room) := by
  obtain ⟨A, c, rfl⟩ := hl.slice
  have HB := Lib.hid b
  have HG := Lib.hid hg
  have HL : Hid (RowR w 1 (fun k => G k ∧ k < w.heap.size) _ _ _) := hl.mono (fun _ h h2 => ⟨h, h2⟩)
  have HD := Lib.hid hd
  clear b hg hl hd
  obtain ⟨kind, n, m, two, l, nodes⟩ := x
  dsimp only [opVal] at hx hs HL ⊢
  subst hx
  go_enter Try.func37, Try.ntmps37
  go_wp2_with fail
  have k0 : Kept No w (w.alloc (.cells #[.int .i64 1, .int .i64 n, .int .i64 m, .bool two, .slice A l.length c, nv] 63)) := (Kept.refl No w).alloc _
  refine (lent_law11 _ _ l _ (by omega) (HL.out.keptNo k0)).mono ?_
  rintro e w1 ⟨t, rfl, ht, k1⟩
  have g1 : w1.heap[w.heap.size]? = _ := k1.blk (heap_alloc_new w _) (fun h => h)
  have K1 : Hid (Kept No w w1) := k0.thenNo k1
  obtain ⟨gt, ct, rfl, hgt, hot⟩ := ht
  rw [World.size_alloc] at hgt
  have hgl := (hot.lt gt rfl).2
  have HT : Hid (LentO w1 (w.heap.size + 1) (.slice (some ⟨gt, 0, none⟩) l.length ct) l) := ⟨gt, ct, rfl, hgt, hot⟩
  have HB1 := Lib.hid (HB.out.keptNo K1.out)
  have G1 := Lib.hid g1
  have nbx : Hid (¬ F1 w.heap.size ∧ ¬ F2 w.heap.size) := ⟨fun h => by have := HB.out.b1 _ h; omega, fun h => by have := HB.out.b2 _ h; omega⟩
  have ngt : Hid (¬ F1 gt ∧ ¬ F2 gt) := ⟨fun h => by have := HB.out.b1 _ h; omega, fun h => by have := HB.out.b2 _ h; omega⟩
  obtain ⟨c0, c1, c2, c3, c4, c5⟩ := cells6 (x := ⟨1, n, m, two, l, nodes⟩) g1
  have hz1 := K1.out.size
  clear k0 k1 g1 hot
  go_wp2_with fail
  refine (make_any HB1.out.h n _ l HT.out.reads hr HB1.out.b1).mono ?_
  rintro e w2 ⟨rfl, h2, k2⟩
  have HB2 := Lib.hid (HB1.out.stepH h2 k2)
  have HT2 := Lib.hid (HT.out.kept k2 (fun k hk => by have : gt = k := by simpa [Value.ownBlock] using hk
                                                      subst this; exact ngt.out.1))
  have g2 := k2.blk G1.out nbx.out.1
  have G2 := Lib.hid g2
  have HL2 := Lib.hid ((HL.out.keptNo K1.out).kept k2 (fun k hk => (HD.out k hk.1).1))
  have K2 := Lib.hid k2
  obtain ⟨d0, d1, d2, d3, d4, d5⟩ := cells6 (x := ⟨1, n, m, two, l, nodes⟩) g2
  have hz2 := k2.size
  clear h2 k2 g2
  go_wp2_with fail
  refine (rmake_any HB2.out.r n _ l HL2.out hr HB2.out.b2).mono ?_
  rintro e w3 ⟨rfl, h3, k3⟩
  have HB3 := Lib.hid (HB2.out.stepR h3 k3)
  have HT3 := Lib.hid (HT2.out.kept k3 (fun k hk => by have : gt = k := by simpa [Value.ownBlock] using hk
                                                       subst this; exact ngt.out.2))
  have g3 := k3.blk G2.out nbx.out.2
  have HL3 := Lib.hid (HL2.out.kept k3 (fun k hk => (HD.out k hk.1).2))
  have K3 := Lib.hid k3
  obtain ⟨e0, e1, e2, e3, e4, e5⟩ := cells6 (x := ⟨1, n, m, two, l, nodes⟩) g3
  have hz3 := k3.size
  clear h3 k3 g3
  go_wp2_with fail
  refine (held_law11 HT3.out HL3.out (by omega) (fun k hk hf => by have : gt = k := by simpa [Value.ownBlock] using hk
                                                                   have := hf.2; omega)).mono ?_
  rintro e w4 ⟨rfl, k4⟩
  have k4' : Kept (fun k => k = gt) w3 w4 := k4.mono (fun k _ h => by have : gt = k := by simpa [Value.ownBlock] using h
                                                                      exact this.symm)
  have HF := Lib.hid (show RetDo w F1 F2 hb rb room (.returned (.bool true)) w4 from ⟨rfl, _, _, _, HB3.out.kept k4' (fun k h e => by
      subst e
      rcases h with h | h
      · exact ngt.out.1 h
      · omega) (fun k h e => by
      subst e
      rcases h with h | h
      · exact ngt.out.2 h
      · omega), HG.out.makeP n l, fun k h => by
      rcases h with h | h
      · exact .inl h
      · exact .inr (by omega), fun k h => by
      rcases h with h | h
      · exact .inl h
      · exact .inr (by omega), ((K1.out.all.trans K2.out (fun _ _ h => .inl h)).trans K3.out (fun _ _ h => .inr h)).trans k4' (fun k hlt e => by omega)⟩)
  clear k4 k4'
  go_wp2_with fail
  go_ret
  exact HF.out
end
end Go.Proofs.Ytooalgnppnmeaaa
