/- HeapRanges: between two rounds. -/
import Derived.Test.YtooalgnppnmeaaaRanged
import Derived.Test.YtooalgnppnmeaaaRangeLawN
import Derived.Test.YtooalgnppnmeaaaL11c
import Derived.Test.YtooalgnppnmeaaaS2
namespace Go.Proofs.Ytooalgnppnmeaaa
open Go.RowKit Go.Shelf

theorem HeapO.turn {A C : World} {F : Nat → Prop} {hb : Nat} {room : Int} {ns : List Nd} {row : Option Nat} (h : HeapO A F hb room ns) (hg : A.grownBy C row) (hr : ∀ r, row = some r → ∃ o : Obj, A.heap[r]? = some o ∧ o.isCells = false) : HeapO C F hb room ns := by
  obtain ⟨v, h1, h2, avs, h3, h4, h5, h6, h7⟩ := h
  exact ⟨v, blk_turn h1 rfl hg hr, h2, avs, h3, own_turn h4 hg hr, h5, h6, fun i a n ha hn => ⟨own_turn (h7 i a n ha hn).1 hg hr, (h7 i a n ha hn).2⟩⟩
/-- Between two rounds of the second range: the boxes, the heap, what was told. -/
structure RgJ (w V : World) (N M B b10 hb D S1 : Nat) (At : Option Addr) (ct : Nat) (A3 : Option Addr) (c3 : Nat) (R : Int) (ns : List Nd) (more : List Rw) (cnt : Int) (pre : List Yd) (W : World) : Prop where
  size : V.heap.size ≤ W.heap.size
  j7 : W.heap[N + 1]? = some (.cells #[.slice A3 more.length c3] 37 (0, 0))
  j8 : W.heap[N + 2]? = some (.cells #[.bool false] 4 (0, 0))
  j10 : W.heap[b10]? = some (.cells #[.pointer (some ⟨hb, 0, none⟩)] 25 (0, 0))
  j11 : W.heap[M]? = some (.cells #[.slice At ns.length ct] 39 (0, 0))
  j15 : W.heap[B]? = some (.cells #[.int .i64 cnt] 3 (0, 0))
  jD : W.heap[D]? = some (.deferred (some []))
  told : NodesR W (fun b => b10 + 1 ≤ b ∧ b < M) (.slice At ns.length ct) ns
  raws : RawsR W (fun b => b < S1) (.slice A3 more.length c3) more
  heap : ∃ F ms, HeapO W F hb R ms ∧ Good R ms ∧ Bnd F W ∧ (∀ b, F b → (S1 ≤ b ∧ b < b10) ∨ (V.heap.size ≤ b ∧ ∀ y ∈ pre, y.m ≤ b)) ∧ (pre = [] → ∀ b, F b → b < b10)
  kept : Kept No w W
/-- How the boxes lie. -/
structure RgS (w V : World) (N M B b10 D S1 : Nat) : Prop where
  a : N + 3 ≤ S1
  b : S1 ≤ b10
  c : b10 + 1 ≤ M
  d : M + 3 ≤ B
  e : V.heap.size = B + 1
  f : D < B
  g : w.heap.size ≤ M
  h : w.heap.size ≤ S1
  i : M + 3 ≤ D
section
variable {w V W W' : World} {N M B b10 hb D S1 : Nat} {At : Option Addr} {ct : Nat} {A3 : Option Addr} {c3 : Nat} {R : Int} {ns : List Nd} {more : List Rw} {cnt : Int} {pre : List Yd}
theorem RgJ.keptNo (h : RgJ w V N M B b10 hb D S1 At ct A3 c3 R ns more cnt pre W) (hk : Kept No W W') : RgJ w V N M B b10 hb D S1 At ct A3 c3 R ns more cnt pre W' := by
  obtain ⟨F, ms, a1, a2, a3, a4, a5⟩ := h.heap
  exact ⟨Nat.le_trans h.size hk.size, hk.blk h.j7 (fun h => h), hk.blk h.j8 (fun h => h), hk.blk h.j10 (fun h => h), hk.blk h.j11 (fun h => h), hk.blk h.j15 (fun h => h), hk.blk h.jD (fun h => h), h.told.keptNo hk, RowR.keptNo h.raws hk, ⟨F, ms, a1.keptNo hk, a2, a3.le hk.size, a4, a5⟩, h.kept.thenNo hk⟩
theorem RgJ.next (s : RgS w V N M B b10 D S1) (h : RgJ w V N M B b10 hb D S1 At ct A3 c3 R ns more cnt pre W) {x : Yd} (hpm : ∀ y ∈ pre, y.m = x.m) : RgJ w V N M B b10 hb D S1 At ct A3 c3 R ns more cnt (pre ++ [x]) W := by
  obtain ⟨F, ms, a1, a2, a3, a4, a5⟩ := h.heap
  refine ⟨h.size, h.j7, h.j8, h.j10, h.j11, h.j15, h.jD, h.told, h.raws, ⟨F, ms, a1, a2, a3, fun b hb => ?_, fun e => by simp at e⟩, h.kept⟩
  rcases a4 b hb with h1 | ⟨h1, h2⟩
  · exact .inl h1
  · cases pre with
    | nil => have := a5 rfl b hb; have := s.c; have := s.d; have := s.e; omega
    | cons z pre =>
      refine .inr ⟨h1, fun y hy => ?_⟩
      have hz := h2 z (by simp)
      have hzm := hpm z (by simp)
      rcases List.mem_append.1 hy with hy | hy
      · exact h2 y hy
      · have : y = x := by simpa using hy
        rw [this]; omega
/-- A call on the heap. -/
theorem RgJ.stepped (s : RgS w V N M B b10 D S1) (h : RgJ w V N M B b10 hb D S1 At ct A3 c3 R ns more cnt pre W) {x : Yd} (hx : x ∈ pre) (hpm : ∀ y ∈ pre, y.m = x.m) (hmW : x.m ≤ W.heap.size) {F : Nat → Prop} {ms' : List Nd} (hF : ∀ b, F b → (S1 ≤ b ∧ b < b10) ∨ (V.heap.size ≤ b ∧ ∀ y ∈ pre, y.m ≤ b)) (hk : Kept F W W') (hh : HeapO W' (Grow F W W') hb R ms') (hg : Good R ms') (hB : Bnd F W) :
    RgJ w V N M B b10 hb D S1 At ct A3 c3 R ns more cnt pre W' ∧ Kept (Outer V.heap.size x.m) W W' := by
  have a := s.a; have b := s.b; have c := s.c; have d := s.d; have e := s.e; have f := s.f; have g := s.g; have hh1 := s.h; have hi := s.i
  have off : ∀ k, k < S1 ∨ (b10 ≤ k ∧ k < V.heap.size) → ¬ F k := fun k hk hf => by
    rcases hF k hf with h1 | h1 <;> omega
  refine ⟨⟨Nat.le_trans h.size hk.size, hk.blk h.j7 (off _ (by omega)), hk.blk h.j8 (off _ (by omega)), hk.blk h.j10 (off _ (by omega)), hk.blk h.j11 (off _ (by omega)), hk.blk h.j15 (off _ (by omega)), hk.blk h.jD (off _ (by omega)),
    h.told.kept hk (fun k hk => off k (by omega)), RowR.kept h.raws hk (fun k hk => off k (by omega)), ⟨_, ms', hh, hg, hB.grow hk.size, fun k hk2 => ?_, fun e => by rw [e] at hx; cases hx⟩, h.kept.trans hk (fun k hlt hf => off k (by omega) hf)⟩, hk.mono (fun k _ hf => ?_)⟩
  · rcases hk2 with h1 | h1
    · exact hF k h1
    · refine .inr ⟨by have := h.size; omega, fun y hy => by have := hpm y hy; omega⟩
  · unfold Outer
    rcases hF k hf with h1 | h1
    · omega
    · have := h1.2 x hx; omega
theorem RgJ.count (s : RgS w V N M B b10 D S1) (h : RgJ w V N M B b10 hb D S1 At ct A3 c3 R ns more cnt pre W) (n : Int) : RgJ w V N M B b10 hb D S1 At ct A3 c3 R ns more n pre (W.setCell ⟨B, 0, none⟩ (.int .i64 n)) := by
  have a := s.a; have b := s.b; have c := s.c; have d := s.d; have e := s.e; have f := s.f; have g := s.g; have hh1 := s.h; have hi := s.i
  have hk : Kept (fun k => k = B) W (W.setCell ⟨B, 0, none⟩ (.int .i64 n)) := (Kept.refl (fun k => k = B) W).setCell (p := ⟨B, 0, none⟩) (.inl rfl) _
  obtain ⟨F, ms, a1, a2, a3, a4, a5⟩ := h.heap
  refine ⟨by simpa using h.size, hk.blk h.j7 (by omega), hk.blk h.j8 (by omega), hk.blk h.j10 (by omega), hk.blk h.j11 (by omega), by simpa using blk_set h.j15 0 (.int .i64 n), hk.blk h.jD (by omega), h.told.kept hk (fun k h1 h2 => by omega), RowR.kept h.raws hk (fun k h1 h2 => by omega), ⟨F, ms, a1.kept hk (fun k h1 h2 => by
    rcases a4 k h1 with h3 | h3 <;> omega), a2, a3.le (by simp), a4, a5⟩, h.kept.trans hk (fun k h1 h2 => by omega)⟩
theorem RgJ.own (s : RgS w V N M B b10 D S1) (cf : List Yd → Int) : OwnFrom V.heap.size (fun pre W => RgJ w V N M B b10 hb D S1 At ct A3 c3 R ns more (cf pre) pre W) := by
  intro pre X C row h hg hr
  have a := s.a; have b := s.b; have c := s.c; have d := s.d; have e := s.e; have f := s.f; have g := s.g; have hh1 := s.h; have hi := s.i
  have hr2 := fun r e => (hr r e).2
  have hk := Kept.of_grown hg (F := fun k => V.heap.size ≤ k) (fun k hk _ => (hr k hk).1)
  obtain ⟨F, ms, a1, a2, a3, a4, a5⟩ := h.heap
  exact ⟨Nat.le_trans h.size hg.size, blk_turn h.j7 rfl hg hr2, blk_turn h.j8 rfl hg hr2, blk_turn h.j10 rfl hg hr2, blk_turn h.j11 rfl hg hr2, blk_turn h.j15 rfl hg hr2, hk.blk h.jD (by omega), h.told.kept hk (fun k h1 h2 => by omega), RowR.kept h.raws hk (fun k h1 h2 => by omega), ⟨F, ms, a1.turn hg hr2, a2, a3.le hg.size, a4, a5⟩, h.kept.trans hk (fun k h1 h2 => by omega)⟩
end
end Go.Proofs.Ytooalgnppnmeaaa
