/- Two heaps and two lists of handles, in blocks apart; acts in memory. -/
import Derived.Test.YtooalgnppnmeaaaSlideP
import Derived.Test.YtooalgnppnmeaaaRH1
import Derived.Test.YtooalgnppnmeaaaMade
namespace Go.Proofs.Ytooalgnppnmeaaa
open Go.RowKit

/-- An act. -/
structure Ac where
  kind : Int
  a : Int
  b : Int
  c : Int
def Ac.ok (x : Ac) : Prop := I64 x.kind ∧ I64 x.a ∧ I64 x.b ∧ I64 x.c
def acCells (x : Ac) : List Value := [.int .i64 x.kind, .int .i64 x.a, .int .i64 x.b, .int .i64 x.c]
theorem ac_get (rs : List Ac) (i : Nat) (x : Ac) (h : rs[i]? = some x) (k : Nat) (hk : k < 4) : (rs.flatMap acCells)[i * 4 + k]? = (acCells x)[k]? := by
  induction rs generalizing i with
  | nil => simp at h
  | cons y rs ih =>
    rw [List.flatMap_cons]
    cases i with
    | zero =>
      simp at h
      subst h
      rw [List.getElem?_append_left (by simp [acCells]; omega)]
      simp
    | succ i =>
      rw [List.getElem?_append_right (by simp [acCells]; omega)]
      rw [show (i + 1) * 4 + k - (acCells y).length = i * 4 + k by simp [acCells]; omega]
      exact ih i (by simpa using h)
def ActsR (w : World) (F : Nat → Prop) (v : Value) (rs : List Ac) : Prop := RowR w 4 F v rs.length (rs.flatMap acCells)
theorem ActsR.at_ {w : World} {F : Nat → Prop} {v : Value} {rs : List Ac} (h : ActsR w F v rs) {i : Nat} {x : Ac} (hi : rs[i]? = some x) : ∃ b o c, v = .slice (some ⟨b, o, none⟩) rs.length c ∧ F b ∧ b < w.heap.size ∧
    w.cell? ⟨b, o + i * 4, none⟩ = some (.int .i64 x.kind) ∧ w.cell? ⟨b, o + i * 4 + 1, none⟩ = some (.int .i64 x.a) ∧ w.cell? ⟨b, o + i * 4 + 2, none⟩ = some (.int .i64 x.b) ∧ w.cell? ⟨b, o + i * 4 + 3, none⟩ = some (.int .i64 x.c) := by
  obtain ⟨_, A, c, rfl, hc, hr⟩ := h
  have hlt : i < rs.length := (List.getElem?_eq_some_iff.1 hi).1
  obtain ⟨b, o, rfl, hf, hb, hx⟩ := hr (by omega)
  have hg := fun k hk => ac_get rs i x hi k hk
  refine ⟨b, o, c, rfl, hf, hb, ?_, ?_, ?_, ?_⟩
  · simpa using hx (i * 4 + 0) _ (hg 0 (by omega))
  · simpa [Nat.add_assoc] using hx (i * 4 + 1) _ (hg 1 (by omega))
  · simpa [Nat.add_assoc] using hx (i * 4 + 2) _ (hg 2 (by omega))
  · simpa [Nat.add_assoc] using hx (i * 4 + 3) _ (hg 3 (by omega))

theorem i64_wrapped (z : Int) : I64 (wrap64 z) := by unfold I64 wrap64; omega
/-- The two heaps, the two lists of handles. -/
structure UM (w0 : Nat) (F G : Nat → Prop) (hb gb : Nat) (tx ty : Value) (xs ys : List Int) (ns ms : List Nd) (wr : World) : Prop where
  h : HeapO wr F hb 2000 ns
  g : HeapO wr G gb 2000 ms
  bF : Bnd F wr
  bG : Bnd G wr
  d : ∀ k, F k → ¬ G k
  lF : ∀ k, F k → w0 ≤ k
  lG : ∀ k, G k → w0 ≤ k
  x : wr.ownsRow w0 3 1 tx xs.length (ints xs)
  y : wr.ownsRow w0 3 1 ty ys.length (ints ys)
  xF : ∀ k, tx.ownBlock = some k → ¬ F k ∧ ¬ G k
  yF : ∀ k, ty.ownBlock = some k → ¬ F k ∧ ¬ G k
  xy : ∀ k, tx.ownBlock = some k → ty.ownBlock ≠ some k
section
variable {w0 : Nat} {F G : Nat → Prop} {hb gb : Nat} {tx ty : Value} {xs ys : List Int} {ns ms : List Nd} {wr w' : World}
theorem UM.swap (u : UM w0 F G hb gb tx ty xs ys ns ms wr) : UM w0 G F gb hb ty tx ys xs ms ns wr :=
  ⟨u.g, u.h, u.bG, u.bF, fun k h1 h2 => u.d k h2 h1, u.lG, u.lF, u.y, u.x, fun k h => ⟨(u.yF k h).2, (u.yF k h).1⟩, fun k h => ⟨(u.xF k h).2, (u.xF k h).1⟩, fun k h1 h2 => u.xy k h2 h1⟩
theorem UM.keptNo (u : UM w0 F G hb gb tx ty xs ys ns ms wr) (hk : Kept No wr w') : UM w0 F G hb gb tx ty xs ys ns ms w' :=
  ⟨u.h.keptNo hk, u.g.keptNo hk, u.bF.le hk.size, u.bG.le hk.size, u.d, u.lF, u.lG, own_kept u.x hk (fun _ _ h => h), own_kept u.y hk (fun _ _ h => h), u.xF, u.yF, u.xy⟩
/-- A call on the first heap. -/
theorem UM.stepH (u : UM w0 F G hb gb tx ty xs ys ns ms wr) (hw : w0 ≤ wr.heap.size) {ns' : List Nd} (h : HeapO w' (Grow F wr w') hb 2000 ns') (hk : Kept F wr w') : UM w0 (Grow F wr w') G hb gb tx ty xs ys ns' ms w' := by
  refine ⟨h, u.g.kept hk (fun k h2 h1 => u.d k h1 h2), u.bF.grow hk.size, u.bG.le hk.size, fun k h1 h2 => ?_, fun k h1 => ?_, u.lG, own_kept u.x hk (fun k h1 h2 => (u.xF k h1).1 h2), own_kept u.y hk (fun k h1 h2 => (u.yF k h1).1 h2), fun k h1 => ⟨fun h2 => ?_, (u.xF k h1).2⟩, fun k h1 => ⟨fun h2 => ?_, (u.yF k h1).2⟩, u.xy⟩
  · rcases h1 with h1 | h1
    · exact u.d k h1 h2
    · have := u.bG k h2; omega
  · rcases h1 with h1 | h1
    · exact u.lF k h1
    · omega
  · rcases h2 with h2 | h2
    · exact (u.xF k h1).1 h2
    · have := (u.x.lt k h1).2; omega
  · rcases h2 with h2 | h2
    · exact (u.yF k h1).1 h2
    · have := (u.y.lt k h1).2; omega
theorem UM.stepG (u : UM w0 F G hb gb tx ty xs ys ns ms wr) (hw : w0 ≤ wr.heap.size) {ms' : List Nd} (h : HeapO w' (Grow G wr w') gb 2000 ms') (hk : Kept G wr w') : UM w0 F (Grow G wr w') hb gb tx ty xs ys ns ms' w' :=
  (u.swap.stepH hw h hk).swap
/-- The first list is another one. -/
theorem UM.setX (u : UM w0 F G hb gb tx ty xs ys ns ms wr) {v : Value} {xs' : List Int} (ho : w'.ownsRow w0 3 1 v xs'.length (ints xs')) (hk : Kept (fun k => tx.ownBlock = some k) wr w') (hv : ∀ k, v.ownBlock = some k → tx.ownBlock = some k ∨ wr.heap.size ≤ k) : UM w0 F G hb gb v ty xs' ys ns ms w' := by
  refine ⟨u.h.kept hk (fun k h1 h2 => (u.xF k h2).1 h1), u.g.kept hk (fun k h1 h2 => (u.xF k h2).2 h1), u.bF.le hk.size, u.bG.le hk.size, u.d, u.lF, u.lG, ho, own_kept u.y hk (fun k h1 h2 => u.xy k h2 h1), fun k h1 => ?_, u.yF, fun k h1 h2 => ?_⟩
  · rcases hv k h1 with h2 | h2
    · exact u.xF k h2
    · exact ⟨fun h3 => by have := u.bF k h3; omega, fun h3 => by have := u.bG k h3; omega⟩
  · rcases hv k h1 with h3 | h3
    · exact u.xy k h3 h2
    · have := (u.y.lt k h2).2; omega
theorem UM.setY (u : UM w0 F G hb gb tx ty xs ys ns ms wr) {v : Value} {ys' : List Int} (ho : w'.ownsRow w0 3 1 v ys'.length (ints ys')) (hk : Kept (fun k => ty.ownBlock = some k) wr w') (hv : ∀ k, v.ownBlock = some k → ty.ownBlock = some k ∨ wr.heap.size ≤ k) : UM w0 F G hb gb tx v xs ys' ns ms w' :=
  (u.swap.setX ho hk hv).swap
/-- The first heap is collected. -/
theorem UM.slide (u : UM w0 F G hb gb tx ty xs ys ns ms wr) (hw : w0 ≤ wr.heap.size) {m : Nat} {v : Value} {xs' : List Int} {ns' : List Nd} (h : HeapO w' (fun k => F k ∨ (wr.heap.size ≤ k ∧ k < m)) hb 2000 ns') (ho : w'.ownsRow m 3 1 v xs'.length (ints xs')) (h1 : wr.heap.size ≤ m) (h2 : m ≤ w'.heap.size) (hk : Kept F wr w') :
    UM w0 (fun k => F k ∨ (wr.heap.size ≤ k ∧ k < m)) G hb gb v ty xs' ys ns' ms w' := by
  refine ⟨h, u.g.kept hk (fun k h2 h1 => u.d k h1 h2), fun k h3 => ?_, u.bG.le hk.size, fun k h3 h4 => ?_, fun k h3 => ?_, u.lG, own_base ho (fun k hk => by have := (ho.lt k hk).1; omega), own_kept u.y hk (fun k h1 h2 => (u.yF k h1).1 h2), fun k h3 => ⟨fun h4 => ?_, fun h4 => ?_⟩, fun k h3 => ⟨fun h4 => ?_, (u.yF k h3).2⟩, fun k h3 h4 => ?_⟩
  · rcases h3 with h3 | h3
    · exact Nat.lt_of_lt_of_le (u.bF k h3) hk.size
    · omega
  · rcases h3 with h3 | h3
    · exact u.d k h3 h4
    · have := u.bG k h4; omega
  · rcases h3 with h3 | h3
    · exact u.lF k h3
    · omega
  · have := (ho.lt k h3).1
    rcases h4 with h4 | h4
    · have := u.bF k h4; omega
    · omega
  · have := (ho.lt k h3).1
    have := u.bG k h4; omega
  · rcases h4 with h4 | h4
    · exact (u.yF k h3).1 h4
    · have := (u.y.lt k h3).2; omega
  · have := (ho.lt k h3).1
    have := (u.y.lt k h4).2; omega
end

/-- A list without one of its own: two appends onto a new list. -/
theorem run_drop {w : World} {base g c : Nat} {xs : List Int} (h : w.ownsRow base 3 1 (.slice (some ⟨g, 0, none⟩) xs.length c) xs.length (ints xs)) {d : Nat} (hd : d < xs.length) (hlen : xs.length ≤ 4000000) :
    ∃ A1 c1 w1 g2 c2 w2, (Builtin.append_ #[22, 22] 22 #[.slice (some ⟨w.heap.size, 0, none⟩) 0 0, .slice (some ⟨g, 0, none⟩) d c]).run Try.prog (w.alloc (.cells #[] 3)) = .ok (.slice A1 d c1) w1 ∧
      (Builtin.append_ #[22, 22] 22 #[.slice A1 d c1, .slice (if c = d + 1 then some ⟨g, 0, none⟩ else some ⟨g, d + 1, none⟩) (xs.length - (d + 1)) (c - (d + 1))]).run Try.prog w1 = .ok (.slice g2 (xs.length - 1) c2) w2 ∧
      w2.ownsRow w.heap.size 3 1 (.slice g2 (xs.length - 1) c2) (xs.take d ++ xs.drop (d + 1)).length (ints (xs.take d ++ xs.drop (d + 1))) ∧ Kept No w w2 := by
  obtain ⟨_, A, c', e, hcc, hr⟩ := own_reads h (F := fun _ => True) (fun _ _ => trivial)
  injection e with e1 _ e3
  subst e1; subst e3
  obtain ⟨b, o, e, _, hb, hcell⟩ := hr (by omega)
  injection e with e
  injection e with e1 e2
  subst e1; subst e2
  have k0 : Kept No w (w.alloc (.cells #[] 3)) := (Kept.refl No w).alloc _
  have r1 : RowR (w.alloc (.cells #[] 3)) 1 (fun _ => True) (.slice (some ⟨g, 0, none⟩) d c) d (ints (xs.take d)) := by
    refine RowR.keptNo (w := w) ⟨by simp; omega, _, _, rfl, by omega, fun _ => ⟨g, 0, rfl, trivial, hb, fun j u hj => ?_⟩⟩ k0
    refine hcell j u ?_
    unfold ints at hj ⊢
    rw [List.getElem?_map, List.getElem?_take] at hj
    split at hj
    · rw [List.getElem?_map]; exact hj
    · simp at hj
  obtain ⟨v1, w1, hrun1, ho1, hg1, hat1, _⟩ := run_append_row (P := Try.prog) (ty := 22) Try.underlying22 info3 rfl (by decide) (lit0 w) r1 (ints_one _) (by omega) (by omega) (by simp)
  have k1 : Kept No w w1 := k0.grown hg1 (fun k hk hlt => by simp [Value.ownBlock] at hk; omega)
  have ho1' : w1.ownsRow w.heap.size 3 1 v1 d (ints (xs.take d)) := by simpa [ints] using ho1
  obtain ⟨A1, c1, rfl⟩ := (own_reads ho1' (F := fun _ => True) (fun _ _ => trivial)).slice
  have r2 : RowR w1 1 (fun _ => True) (.slice (if c = d + 1 then some ⟨g, 0, none⟩ else some ⟨g, d + 1, none⟩) (xs.length - (d + 1)) (c - (d + 1))) (xs.length - (d + 1)) (ints (xs.drop (d + 1))) := by
    refine RowR.keptNo (w := w) ⟨by simp, _, _, rfl, by omega, fun hp => ⟨g, d + 1, if_neg (by omega), trivial, hb, fun j u hj => ?_⟩⟩ k1
    have := hcell (d + 1 + j) u (by
      unfold ints at hj ⊢
      rw [List.getElem?_map, List.getElem?_drop] at hj
      rw [List.getElem?_map]; exact hj)
    simpa using this
  obtain ⟨v2, w2, hrun2, ho2, hg2, hat2, _⟩ := run_append_row (P := Try.prog) (ty := 22) Try.underlying22 info3 rfl (by decide) ho1' r2 (ints_one _) (by omega) (by omega) k1.size
  have hn : d + (xs.length - (d + 1)) = xs.length - 1 := by omega
  rw [hn] at ho2
  obtain ⟨g2, c2, rfl⟩ := (own_reads ho2 (F := fun _ => True) (fun _ _ => trivial)).slice
  refine ⟨A1, c1, w1, g2, c2, w2, hrun1, hrun2, ?_, k1.trans (Kept.of_grown hg2 (F := fun k => w.heap.size ≤ k) (fun k hk _ => (ho1'.lt k hk).1)) (fun k hlt hk => by omega)⟩
  have hl : (xs.take d ++ xs.drop (d + 1)).length = xs.length - 1 := by simp; omega
  rw [hl, ints_append]
  exact ho2

/-- One handle more in the first list. -/
theorem UM.pushX {w0 : Nat} {F G : Nat → Prop} {hb gb : Nat} {tx ty : Value} {xs ys : List Int} {ns ms : List Nd} {wr : World} (u : UM w0 F G hb gb tx ty xs ys ns ms wr) (hw : w0 ≤ wr.heap.size) (x : Int) (hlen : xs.length ≤ 4000000) :
    ∃ g c w', (Builtin.append_ #[22, 22] 22 #[tx, .slice (some ⟨wr.heap.size, 0, none⟩) 1 1]).run Try.prog (wr.alloc (.cells #[.int .i64 x] 3)) = .ok (.slice (some ⟨g, 0, none⟩) (xs.length + 1) c) w' ∧
      UM w0 F G hb gb (.slice (some ⟨g, 0, none⟩) (xs.length + 1) c) ty (xs ++ [x]) ys ns ms w' ∧ Kept (fun k => w0 ≤ k) wr w' := by
  obtain ⟨g, c, w', h1, h2, h3, h4⟩ := int_push u.x hw x hlen
  exact ⟨g, c, w', h1, u.setX (by simpa using h2) h3 (fun k hk => by
    have : g = k := by simpa [Value.ownBlock] using hk
    rw [← this]; exact h4), h3.mono (fun k _ hk => (u.x.lt k hk).1)⟩
theorem UM.pushY {w0 : Nat} {F G : Nat → Prop} {hb gb : Nat} {tx ty : Value} {xs ys : List Int} {ns ms : List Nd} {wr : World} (u : UM w0 F G hb gb tx ty xs ys ns ms wr) (hw : w0 ≤ wr.heap.size) (y : Int) (hlen : ys.length ≤ 4000000) :
    ∃ g c w', (Builtin.append_ #[22, 22] 22 #[ty, .slice (some ⟨wr.heap.size, 0, none⟩) 1 1]).run Try.prog (wr.alloc (.cells #[.int .i64 y] 3)) = .ok (.slice (some ⟨g, 0, none⟩) (ys.length + 1) c) w' ∧
      UM w0 F G hb gb tx (.slice (some ⟨g, 0, none⟩) (ys.length + 1) c) xs (ys ++ [y]) ns ms w' ∧ Kept (fun k => w0 ≤ k) wr w' := by
  obtain ⟨g, c, w', h1, h2, h3⟩ := u.swap.pushX hw y hlen
  exact ⟨g, c, w', h1, h2.swap, h3⟩
/-- Two lists of arguments that grow. -/
structure PQ (w5 : World) (xs ys : List Int) (j : Nat) (tp tq : Value) (ps qs : List Int) (wx : World) : Prop where
  lp : ps.length = j
  lq : qs.length = j
  hh : ∀ (i : Nat) c d, ps[i]? = some c → qs[i]? = some d → ∃ z : Nat, xs[z]? = some c ∧ ys[z]? = some d
  p : wx.ownsRow w5.heap.size 3 1 tp j (ints ps)
  q : wx.ownsRow w5.heap.size 3 1 tq j (ints qs)
  pq : ∀ k, tp.ownBlock = some k → tq.ownBlock ≠ some k
  kept : Kept No w5 wx
theorem PQ.nil (w5 : World) (xs ys : List Int) : PQ w5 xs ys 0 (.slice none 0 0) (.slice none 0 0) [] [] w5 :=
  ⟨rfl, rfl, fun i c d h => by simp at h, World.ownsRow_nil _ _ _ _, World.ownsRow_nil _ _ _ _, fun k h => by simp [Value.ownBlock] at h, Kept.refl _ _⟩
theorem PQ.push {w5 wx : World} {xs ys : List Int} {j : Nat} {tp tq : Value} {ps qs : List Int} (h : PQ w5 xs ys j tp tq ps qs wx) (hj : j ≤ 1000) {z : Nat} {c d : Int} (hc : xs[z]? = some c) (hd : ys[z]? = some d) :
    ∃ g1 c1 w7 g2 c2 w8, (Builtin.append_ #[22, 22] 22 #[tp, .slice (some ⟨wx.heap.size, 0, none⟩) 1 1]).run Try.prog (wx.alloc (.cells #[.int .i64 c] 3)) = .ok (.slice (some ⟨g1, 0, none⟩) (j + 1) c1) w7 ∧
      (Builtin.append_ #[22, 22] 22 #[tq, .slice (some ⟨w7.heap.size, 0, none⟩) 1 1]).run Try.prog (w7.alloc (.cells #[.int .i64 d] 3)) = .ok (.slice (some ⟨g2, 0, none⟩) (j + 1) c2) w8 ∧
      PQ w5 xs ys (j + 1) (.slice (some ⟨g1, 0, none⟩) (j + 1) c1) (.slice (some ⟨g2, 0, none⟩) (j + 1) c2) (ps ++ [c]) (qs ++ [d]) w8 ∧ Kept No w5 w7 := by
  have lp := h.lp
  have lq := h.lq
  have hp := h.p
  have hq := h.q
  subst lp
  obtain ⟨g1, c1, w7, r1, o1, k1, m1⟩ := int_push hp h.kept.size c (by omega)
  have K7 : Kept No w5 w7 := h.kept.trans k1 (fun k hlt hk => by have := (hp.lt k hk).1; omega)
  have hq7 := own_kept hq k1 (fun k h1 h2 => h.pq k h2 h1)
  rw [← lq] at hq7
  obtain ⟨g2, c2, w8, r2, o2, k2, m2⟩ := int_push hq7 K7.size d (by omega)
  have hg12 : g1 ≠ g2 := fun e => by
    subst e
    rcases m1 with m1 | m1 <;> rcases m2 with m2 | m2
    · exact h.pq _ m1 m2
    · have := (hp.lt _ m1).2
      have := k1.size
      omega
    · have := (hq.lt _ m2).2; omega
    · have := (o1.lt g1 (by simp [Value.ownBlock])).2; omega
  rw [lq] at r2 o2
  refine ⟨g1, c1, w7, g2, c2, w8, r1, r2, ⟨by simp, by simp [lq], fun i x y hx hy => ?_, ?_, ?_, fun k hk hk2 => ?_, K7.trans k2 (fun k hlt hk => by have := (hq7.lt k hk).1; omega)⟩, K7⟩
  · rw [List.getElem?_append] at hx hy
    by_cases hlt : i < ps.length
    · rw [if_pos hlt] at hx
      rw [if_pos (by omega)] at hy
      exact h.hh i x y hx hy
    · rw [if_neg hlt] at hx
      rw [if_neg (by omega)] at hy
      have e1 := List.mem_of_getElem? hx
      have e2 := List.mem_of_getElem? hy
      simp at e1 e2
      subst e1; subst e2
      exact ⟨z, hc, hd⟩
  · have := own_kept o1 k2 (fun k h1 h2 => by
      have e : g1 = k := by simpa [Value.ownBlock] using h1
      subst e
      rcases m1 with m1 | m1
      · exact h.pq _ m1 h2
      · have := (hq.lt _ h2).2; omega)
    simpa using this
  · simpa [lq] using o2
  · have e1 : g1 = k := by simpa [Value.ownBlock] using hk
    have e2 : g2 = k := by simpa [Value.ownBlock] using hk2
    omega
end Go.Proofs.Ytooalgnppnmeaaa
