/- do: At. -/
import Derived.Test.YtooalgnppnmeaaaDo2
namespace Go.Proofs.Ytooalgnppnmeaaa
open Go.RowKit

theorem one_node {w : World} {a : Value} {n : Nd} (ha : w.ownsRow 0 3 1 a n.args.length (ints n.args)) : NodesO (w.alloc (.cells (ndCells a n).toArray 32)) (fun k => k = w.heap.size ∨ a.ownBlock = some k) (.slice (some ⟨w.heap.size, 0, none⟩) 1 1) [n] := by
  refine ⟨[a], rfl, ?_, fun k hk => ?_, fun i j x y k hx hy hne => ?_, fun i x m hx hm => ?_⟩
  · have := World.ownsRow_lit (base := 0) (size := 5) (e := 32) w (ndCells a n).toArray 1 (Nat.zero_le _) (by decide) (by simp [ndCells])
    simpa [flat_cons, flat_nil] using this
  · have : w.heap.size = k := by simpa [Value.ownBlock] using hk
    exact .inl this.symm
  · have h1 := (List.getElem?_eq_some_iff.1 hx).1
    have h2 := (List.getElem?_eq_some_iff.1 hy).1
    simp at h1 h2
    omega
  · have h1 := (List.getElem?_eq_some_iff.1 hx).1
    have hi : i = 0 := by simp at h1; omega
    subst hi
    simp at hx hm
    subst hx; subst hm
    exact ⟨own_kept ha ((Kept.refl No w).alloc _) (fun _ _ hn => hn), fun k hk => .inr hk⟩

section
variable {F1 F2 : Nat → Prop} {hb rb : Nat} {room : Int} {ns : List Nd} {w : World}
set_option maxRecDepth 100000 in
set_option maxHeartbeats 2000000 in
theorem do_2 (b : Both w F1 F2 hb rb room ns ns) (hg : Good room ns) (x : Opr) (lv nv : Value) (hx : x.kind = 2) :
    Calls Try.prog 37 #[.pointer (some ⟨hb, 0, none⟩), .pointer (some ⟨rb, 0, none⟩), opVal x lv nv] w (RetDo w F1 F2 hb rb room) := by
  have HB := Lib.hid b
  have HG := Lib.hid hg
  obtain ⟨kind, n, m, two, l, nodes⟩ := x
  dsimp only [opVal] at hx ⊢
  subst hx
  obtain ⟨nd, err, h6, hA, hR⟩ : ∃ nd err, nd.args.length ≤ 6 ∧ Hid (∀ W, HeapO W F1 hb room ns → Calls Try.prog 23 #[.pointer (some ⟨hb, 0, none⟩), .int .i64 n] W (RetAt W nd err)) ∧ Hid (∀ W, RHeapO W F2 rb room ns → Calls Try.prog 62 #[.pointer (some ⟨rb, 0, none⟩), .int .i64 n] W (RetAt W nd err)) := by
    cases hq : inR ns n with
    | false => exact ⟨Nd.zero, 112, by simp [Nd.zero], fun W h => at_no h n hq, fun W h => rat_no h n hq⟩
    | true =>
      obtain ⟨nd, h1, h2⟩ := ndAt_of hq
      have := (hg.may nd (ndAt_mem h1)).2.1
      exact ⟨nd, 0, by omega, fun W h => at_yes h n nd h1 (by omega), fun W h => rat_yes h n nd h1 (by omega)⟩
  clear b hg
  go_enter Try.func37, Try.ntmps37
  go_wp2_with fail
  have k0 : Kept No w (w.alloc (.cells #[.int .i64 2, .int .i64 n, .int .i64 m, .bool two, lv, nv] 63)) := (Kept.refl No w).alloc _
  refine (hA.out _ (HB.out.keptNo k0).h).mono ?_
  rintro e w1 ⟨a, rfl, ho1, k1⟩
  have K1 : Hid (Kept No w w1) := k0.thenNo k1
  have g1 := k1.blk (heap_alloc_new w _) (fun h => h)
  obtain ⟨c0, c1, c2, c3, c4, c5⟩ := cells6 (x := ⟨2, n, m, two, l, nodes⟩) g1
  obtain ⟨A1, q1, rfl⟩ := (own_reads ho1 (F := fun _ => True) (fun _ _ => trivial)).slice
  have O1 := Lib.hid ho1
  have hb1 := (Array.getElem?_eq_some_iff.1 g1).1
  clear k0 k1 g1 ho1
  dsimp only [ndVal]
  go_wp2_with fail
  have kb : Kept No w1 (w1.alloc (.cells #[.int .i64 nd.sym, .slice A1 nd.args.length q1, .int .i64 nd.mark, .bool nd.pts, .int .i64 nd.to] 32)) := (Kept.refl No w1).alloc _
  refine (hR.out _ (HB.out.keptNo (K1.out.thenNo kb)).r).mono ?_
  rintro e w2 ⟨a2, rfl, ho2, k2⟩
  have K2 : Hid (Kept No w1 w2) := kb.thenNo k2
  have g2 : w2.heap[w1.heap.size]? = _ := k2.blk (heap_alloc_new w1 _) (fun h => h)
  obtain ⟨A2, q2, rfl⟩ := (own_reads ho2 (F := fun _ => True) (fun _ _ => trivial)).slice
  have G2 := Lib.hid g2
  obtain ⟨⟨p0, p1, p2, p3, p4⟩, _⟩ := cells5 g2
  have hb2 := (Array.getElem?_eq_some_iff.1 g2).1
  have O2 := Lib.hid (own_reads ho2 (F := fun _ => True) (fun _ _ => trivial))
  clear kb k2 g2 ho2
  dsimp only [ndVal]
  go_wp2_with fail
  have kc : Kept No w2 (w2.alloc (.cells #[.int .i64 nd.sym, .slice A2 nd.args.length q2, .int .i64 nd.mark, .bool nd.pts, .int .i64 nd.to] 32)) := (Kept.refl No w2).alloc _
  refine (sameNode_any (a := nd) (b := nd) ((own_reads O1.out (F := fun _ => True) (fun _ _ => trivial)).keptNo (K2.out.thenNo kc)) (O2.out.keptNo kc) (by omega) (by omega)).mono ?_
  rintro e w3 ⟨rfl, k3⟩
  rw [decide_eq_true rfl]
  have K3 : Hid (Kept No w2 w3) := kc.thenNo k3
  have g3 := (kc.thenNo k3).blk G2.out (fun h => h)
  obtain ⟨⟨r0, r1, r2, r3, r4⟩, _⟩ := cells5 g3
  clear kc k3 g3
  go_wp2_with fail
  have O3 := Lib.hid (own_kept (own_kept O1.out K2.out (fun _ _ hn => hn)) K3.out (fun _ _ hn => hn))
  refine (spoil_any (one_node (own_zero O3.out)) ⟨by simp, fun n hn => by
    have : n = nd := by simpa using hn
    subst this; omega⟩ (-5)).mono ?_
  rintro e w4 ⟨rfl, k4⟩
  have kw : Kept No w w3 := (K1.out.thenNo K2.out).thenNo K3.out
  have hz := kw.size
  have ka : ∀ k, (Value.slice A1 nd.args.length q1).ownBlock = some k → w.heap.size ≤ k := fun k hk => by have := (O1.out.lt k hk).1; simp at this; omega
  have HF := Lib.hid (RetDo.same ((HB.out.keptNo (kw.alloc _)).kept k4 (fun k h1 h2 => by
      have := HB.out.b1 k h1
      rcases h2.1 with e | e
      · omega
      · have := ka k e; omega) (fun k h1 h2 => by
      have := HB.out.b2 k h1
      rcases h2.1 with e | e
      · omega
      · have := ka k e; omega)) HG.out ((kw.alloc _).all.trans k4 (fun k hlt h2 => by
      rcases h2.1 with e | e
      · omega
      · have := ka k e; omega)))
  clear k4 kw
  go_wp2_with fail
  go_ret
  exact HF.out
end
end Go.Proofs.Ytooalgnppnmeaaa
