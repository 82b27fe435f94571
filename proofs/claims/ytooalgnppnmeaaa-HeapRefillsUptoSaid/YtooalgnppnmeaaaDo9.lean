/- do: Refill. -/
import Derived.Test.YtooalgnppnmeaaaDo2
import Derived.Test.YtooalgnppnmeaaaS2
namespace Go.Proofs.Ytooalgnppnmeaaa
open Go.RowKit

theorem RowR.first {w : World} {s : Nat} {F : Nat → Prop} {A : Option Addr} {n m c : Nat} {xs ys : List Value} (h : RowR w s F (.slice A (n + m) c) (n + m) (xs ++ ys)) (hl : xs.length = n * s) : RowR w s F (.slice A n c) n xs := by
  obtain ⟨_, A', c', e, hc, hr⟩ := h
  injection e with e1 _ e3
  subst e1; subst e3
  refine ⟨hl, A, c, rfl, by omega, fun hp => ?_⟩
  obtain ⟨b, o, h1, h2, h3, h4⟩ := hr (by omega)
  exact ⟨b, o, h1, h2, h3, fun j u hj => h4 j u (by rw [List.getElem?_append_left (List.getElem?_eq_some_iff.1 hj).1]; exact hj)⟩
theorem NodesR.first {w : World} {F : Nat → Prop} {A : Option Addr} {c : Nat} {ns : List Nd} {n : Nd} (h : NodesR w F (.slice A (ns.length + 1) c) (ns ++ [n])) : NodesR w F (.slice A ns.length c) ns := by
  obtain ⟨avs, hl, hr, ha⟩ := h
  simp only [List.length_append, List.length_cons, List.length_nil, Nat.zero_add] at hl hr
  obtain ⟨a, rest, rfl⟩ : ∃ bvs b, avs = bvs ++ [b] := by
    rcases List.eq_nil_or_concat avs with rfl | ⟨bvs, b, rfl⟩
    · simp at hl
    · exact ⟨bvs, b, List.concat_eq_append⟩
  have hl2 : a.length = ns.length := by simpa using hl
  rw [flat_append _ _ _ _ hl2] at hr
  refine ⟨a, hl2, hr.first (flat_length _ _ hl2), fun i x m hx hm => ha i x m ?_ ?_⟩
  · rw [List.getElem?_append_left (List.getElem?_eq_some_iff.1 hx).1]; exact hx
  · rw [List.getElem?_append_left (List.getElem?_eq_some_iff.1 hm).1]; exact hm

section
variable {F1 F2 G : Nat → Prop} {hb rb : Nat} {room : Int} {ns : List Nd} {w : World}
set_option maxRecDepth 100000 in
set_option maxHeartbeats 2000000 in
theorem do_9 (b : Both w F1 F2 hb rb room ns ns) (hg : Good room ns) (hr : room ≤ 4000) (x : Opr) (lv nv : Value) (hx : x.kind = 9) (hn : NodesR w G nv x.nodes) (hd : ∀ k, G k → ¬ F1 k ∧ ¬ F2 k) (hB : Bulk x.nodes) :
    Calls Try.prog 37 #[.pointer (some ⟨hb, 0, none⟩), .pointer (some ⟨rb, 0, none⟩), opVal x lv nv] w (RetDo w F1 F2 hb rb room) := by
  obtain ⟨An, cn, rfl⟩ := hn.slice
  have HB := Lib.hid b
  have HG := Lib.hid hg
  have HN := Lib.hid hn
  have HD := Lib.hid hd
  have HBk := Lib.hid hB
  have hsz := hB.1
  clear b hg hn hd hB
  obtain ⟨kind, n, m, two, l, nodes⟩ := x
  dsimp only [opVal] at hx hsz HN HBk ⊢
  subst hx
  go_enter Try.func37, Try.ntmps37
  go_wp2_with fail
  have k0 : Kept No w (w.alloc (.cells #[.int .i64 9, .int .i64 n, .int .i64 m, .bool two, lv, .slice An nodes.length cn] 63)) := (Kept.refl No w).alloc _
  refine (rnodes_any (HN.out.keptNo k0) HBk.out).mono ?_
  rintro e w1 ⟨v1, rfl, h1, k1⟩
  have K1 : Hid (Kept No w w1) := k0.thenNo k1
  have g1 := k1.blk (heap_alloc_new w _) (fun h => h)
  have H1 := Lib.hid (h1.mono (F' := Sc w.heap.size w1) (fun k hk _ => ⟨by have := hk.1; simp at this; omega, hk.2⟩))
  obtain ⟨c0, c1, c2, c3, c4, c5⟩ := cells6 (x := ⟨9, n, m, two, l, nodes⟩) g1
  obtain ⟨A1, q1, rfl⟩ := h1.reads.slice
  obtain ⟨v2, w2, happ, h2, k2, g2, q2, rfl⟩ := nodes_push2 H1.out ⟨-9, [], 0, false, 0⟩ (.slice none 0 0) (World.ownsRow_nil _ _ _ _) (fun k hk => by simp [Value.ownBlock] at hk) (by omega)
  dsimp only [ndCells] at happ
  have hq2 : nodes.length + 1 ≤ q2 := by
    obtain ⟨_, _, ⟨_, _, c', e, hc, _⟩, _⟩ := h2.reads
    injection e with _ _ e
    simp at hc
    omega
  have hq3 : nodes.length ≤ q2 := by omega
  have hwr : IntKind.i64.wrap (nodes.length : Int) = (nodes.length : Int) := IntWalk.i64_in _ (by omega)
  have hz1 := K1.out.size
  have H2 : Hid (NodesO w2 (Sc w.heap.size w2) _ _) := h2.mono (F' := Sc w.heap.size w2) (fun k hk hlt => by
    refine ⟨?_, hlt⟩
    rcases hk with hk | hk | hk
    · exact hk.1
    · simp [Value.ownBlock] at hk
    · omega)
  have K2 : Hid (Kept No w w2) := K1.out.trans k2 (fun k hlt hk => by
    obtain ⟨_, _, _, hF, _⟩ := H1.out
    have := (hF k hk).1; omega)
  have G2 := k2.blk g1 (fun hk => by
    obtain ⟨_, _, ho, _⟩ := H1.out
    exact own_ne_blk ho g1 (by decide) hk)
  have HB2 := Lib.hid (HB.out.keptNo K2.out)
  have far : Hid (∀ k, Fr w.heap.size k → ¬ F1 k ∧ ¬ F2 k) := fun k hk => ⟨fun h => by have := HB.out.b1 k h; unfold Fr at hk; omega, fun h => by have := HB.out.b2 k h; unfold Fr at hk; omega⟩
  have GG2 := Lib.hid G2
  clear h1 k0 k1 c0 c1 c2 c3 c4 c5 k2 h2 G2 g1
  go_wp2_with (at_builtin; refine wpList_append_run rfl (.tmp 199) (.tmp 201) 39 rfl rfl rfl happ ?_; clear happ)
  refine (refill_any HB2.out.h H2.out.reads.first hr (by omega) (fun n hn => by have := HBk.out.2 n hn; omega)).mono ?_
  rintro e w3 ⟨rfl, h3, k3⟩
  have HB3 := Lib.hid (HB2.out.stepH h3 k3)
  have H3 := Lib.hid (H2.out.kept k3 (fun k hk => (far.out k hk.1).1))
  have K3 := Lib.hid k3
  have GG3 := Lib.hid (k3.blk GG2.out (far.out _ (Nat.le_refl _)).1)
  have HN3 := Lib.hid ((HN.out.keptNo K2.out).kept k3 (fun k hk => (HD.out k hk).1))
  obtain ⟨c0, c1, c2, c3, c4, c5⟩ := cells6 (x := ⟨9, n, m, two, l, nodes⟩) GG3.out
  clear h3 k3
  go_wp2_with fail
  refine (rrefill_any HB3.out.r HN3.out hr HBk.out).mono ?_
  rintro e w4 ⟨rfl, h4, k4⟩
  have HB4 := Lib.hid (HB3.out.stepR h4 k4)
  have H4 := Lib.hid (H3.out.kept k4 (fun k hk => (far.out k hk.1).2))
  have K4 := Lib.hid k4
  have GG4 := Lib.hid (k4.blk GG3.out (far.out _ (Nat.le_refl _)).2)
  have HN4 := Lib.hid (HN3.out.kept k4 (fun k hk => (HD.out k hk).2))
  obtain ⟨d0, d1, d2, d3, d4, d5⟩ := cells6 (x := ⟨9, n, m, two, l, nodes⟩) GG4.out
  have hsh : Hid (Short nodes) := ⟨by omega, fun n hn => by have := HBk.out.2 n hn; omega⟩
  clear h4 k4 c0 c1 c2 c3 c4 c5
  go_wp2_with fail
  have kd : Hid (Kept No w4 w4.drew) := (Kept.refl No w4).drew
  go_region_law (first | (go_simp; go_at_call 35; refine (sameNodes_any (H4.out.keptNo kd.out).reads.first (HN4.out.keptNo kd.out) hsh.out hsh.out).mono ?_; rintro e w5 ⟨rfl, k5⟩; rw [decide_eq_true rfl]; have K5 := Lib.hid k5; clear k5))
  all_goals
    have H5 := Lib.hid ((H4.out.keptNo kd.out).keptNo K5.out)
    have KW : Hid (Kept (fun k => F1 k ∨ F2 k) w w5) := ((((K2.out.all.trans K3.out (fun _ _ h => .inl h)).trans K4.out (fun _ _ h => .inr h)).thenNo kd.out).thenNo K5.out)
    have HB5 := Lib.hid ((HB4.out.keptNo kd.out).keptNo K5.out)
    have hz2 := K2.out.size
    have hz4 := K4.out.size
    have hz3 := K3.out.size
    go_wp2_with fail
    refine (spoil_any H5.out ⟨by simp; omega, fun n hn => by
      rcases List.mem_append.1 hn with hn | hn
      · have := HBk.out.2 n hn; omega
      · have : n = ⟨-9, [], 0, false, 0⟩ := by simpa using hn
        subst this; simp⟩ (-7)).mono ?_
    rintro e w6 ⟨rfl, k6⟩
    obtain ⟨g, c', av, he, _, hgl, m0, _, _, _, _, _, _⟩ := H5.out.at_ (i := nodes.length) (n := ⟨-9, [], 0, false, 0⟩) (by simp)
    have hg : g2 = g := by
      injection he with he _ _
      injection he with he
      injection he with he
    subst hg
    have m6 := (k6.cell (p := ⟨g2, nodes.length * 5, none⟩) hgl (fun h => h.2 rfl)).trans m0
    have HF := Lib.hid (show RetDo w F1 F2 hb rb room (.returned (.bool true)) w6 from ⟨rfl, _, _, _, HB5.out.kept k6 (fun k h h2 => by
        have h3 := h2.1.2
        rcases h with h | h
        · exact (far.out k h2.1.1).1 h
        · omega) (fun k h h2 => by
        have h3 := h2.1.2
        rcases h with h | h
        · exact (far.out k h2.1.1).2 h
        · omega), HG.out.refillP nodes, fun k h => by
        rcases h with h | h
        · exact .inl h
        · exact .inr (by omega), fun k h => by
        rcases h with h | h
        · exact .inl h
        · exact .inr (by omega), KW.out.trans k6 (fun k hlt h2 => by have := h2.1.1; omega)⟩)
    clear k6 m0 he
    go_wp2_with fail
    go_ret
    exact HF.out
end
end Go.Proofs.Ytooalgnppnmeaaa
