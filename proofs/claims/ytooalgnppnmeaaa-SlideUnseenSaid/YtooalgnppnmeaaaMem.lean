/- The words of these proofs for memory: what is kept, rows that are read, rows that are owned. No Go and no program here. -/
import Derived.WalkKit
import Derived.Deep.AppendLies
import Derived.Deep.Draws
import Derived.Laws.CopyOwn
import Derived.Laws.MakeOwn
import Derived.Laws.Entries
import Derived.Laws.IdiomCopy
import Derived.Maps.AppendAt
import Derived.Lib.Hide
import Derived.RegionTactic
import Derived.OwnWalk
namespace Go.Proofs.Ytooalgnppnmeaaa
open Go.RowKit

/-- Blocks outside F, and the streams, are as they were. -/
structure Kept (F : Nat → Prop) (w w' : World) : Prop where
  os : w'.os = w.os
  tape : w'.tape = w.tape
  output : w'.output = w.output
  size : w.heap.size ≤ w'.heap.size
  block : ∀ k, k < w.heap.size → ¬ F k → w'.heap[k]? = w.heap[k]?

/-- No block. -/
def No : Nat → Prop := fun _ => False
/-- The block of a slice. -/
def Its (v : Value) : Nat → Prop := fun k => v.ownBlock = some k
/-- What is new between two worlds. -/
def News (w w' : World) : Nat → Prop := fun k => w.heap.size ≤ k ∧ k < w'.heap.size
/-- F, and what is new between two worlds. -/
def Grow (F : Nat → Prop) (w w' : World) : Nat → Prop := fun k => F k ∨ (w.heap.size ≤ k ∧ k < w'.heap.size)
/-- All of F's blocks are there. -/
def Bnd (F : Nat → Prop) (w : World) : Prop := ∀ k, F k → k < w.heap.size

theorem Kept.refl (F : Nat → Prop) (w : World) : Kept F w w := ⟨rfl, rfl, rfl, Nat.le_refl _, fun _ _ _ => rfl⟩
theorem Kept.mono {F F' : Nat → Prop} {w w' : World} (h : Kept F w w') (hF : ∀ k, k < w.heap.size → F k → F' k) : Kept F' w w' :=
  ⟨h.os, h.tape, h.output, h.size, fun k hk hn => h.block k hk (fun hf => hn (hF k hk hf))⟩
theorem Kept.all {F : Nat → Prop} {w w' : World} (h : Kept No w w') : Kept F w w' := h.mono (fun _ _ hf => hf.elim)
/-- Two steps; the second may write what is new, too. -/
theorem Kept.trans {F F' : Nat → Prop} {a b c : World} (h : Kept F a b) (k : Kept F' b c) (hF : ∀ i, i < a.heap.size → F' i → F i) : Kept F a c :=
  ⟨k.os.trans h.os, k.tape.trans h.tape, k.output.trans h.output, Nat.le_trans h.size k.size,
    fun i hi hn => (k.block i (Nat.lt_of_lt_of_le hi h.size) (fun hf => hn (hF i hi hf))).trans (h.block i hi hn)⟩
theorem Kept.thenNo {F : Nat → Prop} {a b c : World} (h : Kept F a b) (k : Kept No b c) : Kept F a c := h.trans k (fun _ _ hf => hf.elim)
theorem Kept.drewN {F : Nat → Prop} {a w : World} (h : Kept F a w) (n : Nat) : Kept F a (w.drewN n) := ⟨h.os, h.tape, h.output, h.size, h.block⟩
theorem Kept.drew {F : Nat → Prop} {a w : World} (h : Kept F a w) : Kept F a w.drew := ⟨h.os, h.tape, h.output, h.size, h.block⟩
theorem Kept.alloc {F : Nat → Prop} {a w : World} (h : Kept F a w) (o : Obj) : Kept F a (w.alloc o) :=
  h.trans (F' := No) ⟨rfl, rfl, rfl, by simp, fun k hk _ => Below.heap_alloc _ _ _ hk⟩ (fun _ _ hf => hf.elim)
theorem Kept.setCell {F : Nat → Prop} {a w : World} (h : Kept F a w) {p : Addr} (hp : F p.block ∨ a.heap.size ≤ p.block) (u : Value) : Kept F a (w.setCell p u) :=
  h.trans (F' := fun k => k = p.block) ⟨rfl, rfl, rfl, by simp [World.setCell], fun k _ hn => Below.heap_setCell _ _ _ _ hn⟩
    (fun i hi hf => by rcases hp with hp | hp; exact hf ▸ hp; subst hf; omega)
theorem Kept.of_below {w w' : World} {F : Nat → Prop} (h : Below w.heap.size w w') : Kept F w w' := ⟨h.os, h.tape, h.output, h.size, fun k hk _ => h.block k hk⟩
theorem Kept.of_grown {w w' : World} {row : Option Nat} {F : Nat → Prop} (h : w.grownBy w' row) (hr : ∀ k, row = some k → k < w.heap.size → F k) : Kept F w w' :=
  ⟨h.os, h.tape, h.output, h.size, fun k hk hn => h.block k hk (fun e => hn (hr k e.symm hk))⟩
theorem Kept.grown {F : Nat → Prop} {a w w' : World} {row : Option Nat} (h : Kept F a w) (hg : w.grownBy w' row) (hr : ∀ k, row = some k → k < a.heap.size → F k) : Kept F a w' :=
  h.trans (F' := fun k => row = some k) (Kept.of_grown hg (fun _ hk _ => hk)) (fun i hi hf => hr i hf hi)
theorem Kept.below {w w' : World} {F : Nat → Prop} {B : Nat} (h : Kept F w w') (hB : B ≤ w.heap.size) (hF : ∀ k, F k → B ≤ k) : Below B w w' :=
  ⟨h.os, h.tape, h.output, h.size, fun k hk => h.block k (by omega) (fun hf => by have := hF k hf; omega)⟩
theorem Kept.cell {w w' : World} {F : Nat → Prop} (h : Kept F w w') {p : Addr} (hp : p.block < w.heap.size) (hn : ¬ F p.block) : w'.cell? p = w.cell? p :=
  World.cell?_of_block (h.block _ hp hn)
theorem Kept.frozen {w w' : World} {F : Nat → Prop} (h : Kept F w w') {p : Addr} (hp : p.block < w.heap.size) (hn : ¬ F p.block) : w'.frozen? p = w.frozen? p :=
  World.frozen?_of_block (h.block _ hp hn)
theorem Bnd.grow {F : Nat → Prop} {w w' : World} (h : Bnd F w) (hz : w.heap.size ≤ w'.heap.size) : Bnd (Grow F w w') w' := by
  rintro k (hk | hk)
  · have := h k hk; omega
  · exact hk.2
theorem Bnd.le {F : Nat → Prop} {w w' : World} (h : Bnd F w) (hz : w.heap.size ≤ w'.heap.size) : Bnd F w' := fun k hk => Nat.lt_of_lt_of_le (h k hk) hz
/-- In the walk's form: all old cells and marks read as before. -/
theorem Kept.bcell {w w' : World} (h : Kept No w w') : (∀ b o, b < w.heap.size → w'.cell? ⟨b, o, none⟩ = w.cell? ⟨b, o, none⟩) ∧ (∀ b o, b < w.heap.size → w'.frozen? ⟨b, o, none⟩ = w.frozen? ⟨b, o, none⟩) :=
  ⟨fun b o hb => h.cell (p := ⟨b, o, none⟩) hb (fun hn => hn), fun b o hb => h.frozen (p := ⟨b, o, none⟩) hb (fun hn => hn)⟩

/-- The cells of a block of five. -/
theorem cells5 {w : World} {b : Nat} {x0 x1 x2 x3 x4 : Value} {t : TypeId} (h : w.heap[b]? = some (.cells #[x0, x1, x2, x3, x4] t (0, 0))) :
    (w.cell? ⟨b, 0, none⟩ = some x0 ∧ w.cell? ⟨b, 1, none⟩ = some x1 ∧ w.cell? ⟨b, 2, none⟩ = some x2 ∧ w.cell? ⟨b, 3, none⟩ = some x3 ∧ w.cell? ⟨b, 4, none⟩ = some x4) ∧
    w.frozen? ⟨b, 0, none⟩ = false ∧ w.frozen? ⟨b, 1, none⟩ = false ∧ w.frozen? ⟨b, 2, none⟩ = false ∧ w.frozen? ⟨b, 3, none⟩ = false ∧ w.frozen? ⟨b, 4, none⟩ = false :=
  ⟨⟨by rw [cell_of_row _ _ _ _ _ _ h]; rfl, by rw [cell_of_row _ _ _ _ _ _ h]; rfl, by rw [cell_of_row _ _ _ _ _ _ h]; rfl, by rw [cell_of_row _ _ _ _ _ _ h]; rfl, by rw [cell_of_row _ _ _ _ _ _ h]; rfl⟩,
    frozen_of_row _ _ _ _ _ h, frozen_of_row _ _ _ _ _ h, frozen_of_row _ _ _ _ _ h, frozen_of_row _ _ _ _ _ h, frozen_of_row _ _ _ _ _ h⟩
theorem Kept.blk {F : Nat → Prop} {w w' : World} (h : Kept F w w') {b : Nat} {o : Obj} (hb : w.heap[b]? = some o) (hn : ¬ F b) : w'.heap[b]? = some o :=
  (h.block b (Array.getElem?_eq_some_iff.1 hb).1 hn).trans hb
theorem blk_alloc {w : World} {b : Nat} {o : Obj} (h : w.heap[b]? = some o) (o' : Obj) : (w.alloc o').heap[b]? = some o :=
  (Below.heap_alloc w o' b (Array.getElem?_eq_some_iff.1 h).1).trans h
theorem blk_set {w : World} {b : Nat} {cs : Array Value} {t : TypeId} (h : w.heap[b]? = some (.cells cs t (0, 0))) (i : Nat) (u : Value) : (w.setCell ⟨b, i, none⟩ u).heap[b]? = some (.cells (cs.setIfInBounds i u) t (0, 0)) := by
  simp [World.setCell, Array.getElem?_modify, h]
theorem blk_far {w : World} {b : Nat} {o : Obj} (h : w.heap[b]? = some o) {p : Addr} (hp : b ≠ p.block) (u : Value) : (w.setCell p u).heap[b]? = some o := (Below.heap_setCell w p u b hp).trans h
/-- Five cells stored, one by one. -/
theorem store5 {w : World} {b : Nat} {x0 x1 x2 x3 x4 : Value} {t : TypeId} (h : w.heap[b]? = some (.cells #[x0, x1, x2, x3, x4] t (0, 0))) (y0 y1 y2 y3 y4 : Value) :
    (((((w.setCell ⟨b, 0, none⟩ y0).setCell ⟨b, 1, none⟩ y1).setCell ⟨b, 2, none⟩ y2).setCell ⟨b, 3, none⟩ y3).setCell ⟨b, 4, none⟩ y4).heap[b]? = some (.cells #[y0, y1, y2, y3, y4] t (0, 0)) ∧
    Kept (fun k => k = b) w (((((w.setCell ⟨b, 0, none⟩ y0).setCell ⟨b, 1, none⟩ y1).setCell ⟨b, 2, none⟩ y2).setCell ⟨b, 3, none⟩ y3).setCell ⟨b, 4, none⟩ y4) :=
  ⟨by simpa using blk_set (blk_set (blk_set (blk_set (blk_set h 0 y0) 1 y1) 2 y2) 3 y3) 4 y4,
    ((((((Kept.refl (fun k => k = b) w).setCell (p := ⟨b, 0, none⟩) (.inl rfl) y0).setCell (p := ⟨b, 1, none⟩) (.inl rfl) y1).setCell (p := ⟨b, 2, none⟩) (.inl rfl) y2).setCell (p := ⟨b, 3, none⟩) (.inl rfl) y3).setCell (p := ⟨b, 4, none⟩) (.inl rfl) y4)⟩

/-! ### lists of values -/
def ints (l : List Int) : List Value := l.map (Value.int .i64)
def bools (l : List Bool) : List Value := l.map Value.bool
@[simp] theorem ints_length (l : List Int) : (ints l).length = l.length := by simp [ints]
@[simp] theorem bools_length (l : List Bool) : (bools l).length = l.length := by simp [bools]
theorem ints_get (l : List Int) (j : Nat) : (ints l)[j]? = l[j]?.map (Value.int .i64) := by simp [ints]
theorem bools_get (l : List Bool) (j : Nat) : (bools l)[j]? = l[j]?.map Value.bool := by simp [bools]
theorem ints_one (l : List Int) : ∀ u ∈ ints l, u.oneCell' = true := by
  intro u hu
  obtain ⟨x, _, rfl⟩ := List.mem_map.1 hu
  rfl
theorem bools_one (l : List Bool) : ∀ u ∈ bools l, u.oneCell' = true := by
  intro u hu
  obtain ⟨x, _, rfl⟩ := List.mem_map.1 hu
  rfl
theorem ints_append (l m : List Int) : ints (l ++ m) = ints l ++ ints m := by simp [ints]
theorem bools_append (l m : List Bool) : bools (l ++ m) = bools l ++ bools m := by simp [bools]
theorem ints_set (l : List Int) (i : Nat) (x : Int) : (ints l).set i (.int .i64 x) = ints (l.set i x) := by simp [ints]
theorem bools_set (l : List Bool) (i : Nat) (x : Bool) : (bools l).set i (.bool x) = bools (l.set i x) := by simp [bools]

/-! ### rows that are read -/
/-- The slice v, of n elements of s cells each, reads as the cells xs; its block is one of F's. -/
def RowR (w : World) (s : Nat) (F : Nat → Prop) (v : Value) (n : Nat) (xs : List Value) : Prop :=
  xs.length = n * s ∧ ∃ A c, v = .slice A n c ∧ n ≤ c ∧
    (0 < n → ∃ b o, A = some ⟨b, o, none⟩ ∧ F b ∧ b < w.heap.size ∧ ∀ j u, xs[j]? = some u → w.cell? ⟨b, o + j, none⟩ = some u)

section
variable {w w' : World} {s n : Nat} {F F' G : Nat → Prop} {v : Value} {xs : List Value}
theorem RowR.move (h : RowR w s F v n xs) (hF : ∀ k, F k → k < w.heap.size → F' k) (hz : w.heap.size ≤ w'.heap.size) (hm : ∀ k, F k → k < w.heap.size → w'.heap[k]? = w.heap[k]?) : RowR w' s F' v n xs := by
  obtain ⟨hl, A, c, e, hc, hr⟩ := h
  refine ⟨hl, A, c, e, hc, fun hp => ?_⟩
  obtain ⟨b, o, ha, hf, hlt, hx⟩ := hr hp
  exact ⟨b, o, ha, hF b hf hlt, by omega, fun j x hj => (World.cell?_of_block (hm b hf hlt)).trans (hx j x hj)⟩
theorem RowR.mono (h : RowR w s F v n xs) (hF : ∀ k, F k → k < w.heap.size → F' k) : RowR w s F' v n xs := h.move hF (Nat.le_refl _) (fun _ _ _ => rfl)
theorem RowR.kept (h : RowR w s F v n xs) (hk : Kept G w w') (hd : ∀ k, F k → ¬ G k) : RowR w' s F v n xs := h.move (fun _ hf _ => hf) hk.size (fun k hf hlt => hk.block k hlt (hd k hf))
theorem RowR.keptNo (h : RowR w s F v n xs) (hk : Kept No w w') : RowR w' s F v n xs := h.kept hk (fun _ _ hn => hn)
theorem RowR.slice (h : RowR w s F v n xs) : ∃ A c, v = .slice A n c := by obtain ⟨_, A, c, e, _⟩ := h; exact ⟨A, c, e⟩
theorem RowR.nil (w : World) (s : Nat) (F : Nat → Prop) : RowR w s F (.slice none 0 0) 0 [] := ⟨by simp, none, 0, rfl, Nat.le_refl _, fun h => absurd h (by omega)⟩

theorem own_move' {base : Nat} {e : TypeId} (h : w.ownsRow base e s v n xs) (hm : ∀ k, v.ownBlock = some k → k < w.heap.size → w'.heap[k]? = w.heap[k]?) : w'.ownsRow base e s v n xs := by
  refine ⟨h.1, ?_⟩
  rcases h.2 with h2 | ⟨g, cap, cur, rfl, hg, hh, r⟩
  · exact .inl h2
  · exact .inr ⟨g, cap, cur, rfl, hg, (hm g (by simp [Value.ownBlock]) (Array.getElem?_eq_some_iff.1 hh).1).trans hh, r⟩
theorem own_kept {base : Nat} {e : TypeId} (h : w.ownsRow base e s v n xs) (hk : Kept G w w') (hd : ∀ k, v.ownBlock = some k → ¬ G k) : w'.ownsRow base e s v n xs :=
  own_move' h (fun k hv hlt => hk.block k hlt (hd k hv))
theorem own_base {base base' : Nat} {e : TypeId} (h : w.ownsRow base e s v n xs) (hb : ∀ k, v.ownBlock = some k → base' ≤ k) : w.ownsRow base' e s v n xs := by
  refine ⟨h.1, ?_⟩
  rcases h.2 with h2 | ⟨g, cap, cur, rfl, hg, hh, r⟩
  · exact .inl h2
  · exact .inr ⟨g, cap, cur, rfl, hb g (by simp [Value.ownBlock]), hh, r⟩
theorem own_zero {base : Nat} {e : TypeId} (h : w.ownsRow base e s v n xs) : w.ownsRow 0 e s v n xs := own_base h (fun _ _ => Nat.zero_le _)
/-- What is owned can be read. -/
theorem own_reads {base : Nat} {e : TypeId} (h : w.ownsRow base e s v n xs) (hF : ∀ k, v.ownBlock = some k → F k) : RowR w s F v n xs := by
  refine ⟨h.1, ?_⟩
  rcases h.2 with ⟨rfl, hn⟩ | ⟨g, cap, cur, rfl, hg, hh, hc, hm, hs, ht⟩
  · subst hn
    exact ⟨none, 0, rfl, Nat.le_refl _, fun h => absurd h (by simp)⟩
  · refine ⟨some ⟨g, 0, none⟩, cap, rfl, hc, fun hp => ⟨g, 0, rfl, hF g (by simp [Value.ownBlock]), (Array.getElem?_eq_some_iff.1 hh).1, fun j u hj => ?_⟩⟩
    have := h.cells (g := g) (by simp [Value.ownBlock]) j u hj
    unfold Addr.add at this
    by_cases h0 : j = 0
    · subst h0; simpa using this
    · simpa [h0] using this
/-- Two rows of different element types are two blocks. -/
theorem own_ne {base base' s' n' : Nat} {e e' : TypeId} {v' : Value} {xs' : List Value} (h : w.ownsRow base e s v n xs) (h' : w.ownsRow base' e' s' v' n' xs') (hne : e ≠ e') : ∀ k, v.ownBlock = some k → v'.ownBlock ≠ some k := by
  intro k hk hk'
  rcases h.2 with ⟨rfl, _⟩ | ⟨g, cap, cur, rfl, _, hh, _⟩
  · simp [Value.ownBlock] at hk
  rcases h'.2 with ⟨rfl, _⟩ | ⟨g', cap', cur', rfl, _, hh', _⟩
  · simp [Value.ownBlock] at hk'
  have e1 : g = k := by simpa [Value.ownBlock] using hk
  have e2 : g' = k := by simpa [Value.ownBlock] using hk'
  subst e1
  subst e2
  rw [hh] at hh'
  injection hh' with hh'
  injection hh' with _ ht
  exact hne ht
theorem own_ne_blk {base : Nat} {e t : TypeId} {cs : Array Value} {g : Nat} {fr : Nat × Nat} (h : w.ownsRow base e s v n xs) (hg : w.heap[g]? = some (.cells cs t fr)) (hne : e ≠ t) : v.ownBlock ≠ some g := by
  intro hk
  rcases h.2 with ⟨rfl, _⟩ | ⟨g', cap, cur, rfl, _, hh, _⟩
  · simp [Value.ownBlock] at hk
  have e1 : g' = g := by simpa [Value.ownBlock] using hk
  subst e1
  rw [hh] at hg
  injection hg with hg
  injection hg with _ ht
  exact hne ht
end

/-- The top of a stack of numbers. -/
theorem stack_top {w : World} {base : Nat} {e : TypeId} {v : Value} {l : List Int} {x : Int} (h : w.ownsRow base e 1 v (l ++ [x]).length (ints (l ++ [x]))) :
    ∃ g c, v = .slice (some ⟨g, 0, none⟩) (l.length + 1) c ∧ l.length + 1 ≤ c ∧ w.cell? ⟨g, l.length, none⟩ = some (.int .i64 x) ∧ w.ownsRow base e 1 (.slice (some ⟨g, 0, none⟩) l.length c) l.length (ints l) ∧ base ≤ g := by
  obtain ⟨hl, h2⟩ := h
  rcases h2 with ⟨_, h0⟩ | ⟨g, cap, cur, rfl, hg, hh, hn, hcap, hsz, htake⟩
  · simp at h0
  · simp only [List.length_append, List.length_cons, List.length_nil, Nat.zero_add] at *
    refine ⟨g, cap, rfl, hn, ?_, ⟨by simp, .inr ⟨g, cap, cur, rfl, hg, hh, by omega, hcap, hsz, ?_⟩⟩, hg⟩
    · rw [cell_of_row _ _ _ _ _ _ hh]
      have : (cur.toList.take ((l.length + 1) * 1))[l.length]? = (ints (l ++ [x]))[l.length]? := by rw [htake]
      rw [List.getElem?_take, if_pos (by omega)] at this
      rw [← Array.getElem?_toList, this]
      simp [ints]
    · have h3 : (cur.toList.take ((l.length + 1) * 1)).take (l.length * 1) = (ints (l ++ [x])).take (l.length * 1) := by rw [htake]
      rw [List.take_take, Nat.min_eq_left (by omega)] at h3
      rw [h3]
      simp [ints]
/-- A row of one-cell elements: what one element is, and writing it. -/
theorem own_get {w : World} {base : Nat} {e : TypeId} {v : Value} {n : Nat} {xs : List Value} (h : w.ownsRow base e 1 v n xs) {i : Nat} (hi : i < n) :
    ∃ g c u, v = .slice (some ⟨g, 0, none⟩) n c ∧ xs[i]? = some u ∧ w.cell? ⟨g, i, none⟩ = some u ∧ w.frozen? ⟨g, i, none⟩ = false ∧ base ≤ g ∧ g < w.heap.size := by
  obtain ⟨g, c, rfl, hg, hlt⟩ := h.form (by omega)
  have hl := h.1
  have hx : xs[i]? = some xs[i] := List.getElem?_eq_getElem (by omega)
  exact ⟨g, c, xs[i], rfl, hx, (h.cellAt i (by omega)).trans hx, h.frozenAt i, hg, hlt⟩
/-! ### make -/
theorem run_make_rowN {P : Program} (t e : TypeId) (i : TypeInfo) (z : Value) (ht : P.underlying t = some (.slice e)) (hi : P.info? e = some i) (hz : i.zero = some z)
    (kl kc : IntKind) (n c : Nat) (hnc : n ≤ c) (hbytes : i.bytes * c ≤ 281474976710656) (h63 : c ≤ 9223372036854775807) (w : World) :
    (Instr.makeSlice t (.int kl (n : Int)) (.int kc (c : Int))).run P w = .ok (.slice (some ⟨w.heap.size, 0, none⟩) n c) (w.alloc (.cells (madeCells z.cells (c * i.size)) e)) := by
  have hb : (i.bytes : Int) * (c : Int) ≤ 281474976710656 := by
    have h : ((i.bytes * c : Nat) : Int) ≤ 281474976710656 := by omega
    rwa [Int.natCast_mul] at h
  have hr := run_make (P := P) w t e i z ht hi hz kl kc n c (by omega) (by omega) hb (by omega)
  simp only [Int.toNat_natCast] at hr
  exact hr
/-- make([]T, n), T of one cell: a row of its own, of zero values. -/
theorem run_make_one {P : Program} {t e : TypeId} {z : Value} {bytes : Nat} (ht : P.underlying t = some (.slice e)) (hi : (P.info? e).map (fun i => (i.zero, i.size, i.bytes)) = some (some z, 1, bytes)) (hz1 : z.cells = #[z])
    (n : Nat) (hbytes : bytes * n ≤ 281474976710656) (h63 : n ≤ 9223372036854775807) (w : World) :
    ∃ v w', (Instr.makeSlice t (.int .i64 (n : Int)) (.int .i64 (n : Int))).run P w = .ok v w' ∧ (∃ A c, v = .slice A n c) ∧ w'.ownsRow w.heap.size e 1 v n (List.replicate n z) ∧ w.grownBy w' none := by
  obtain ⟨i0, h0, hz, hs, hb⟩ := info_parts hi
  refine ⟨_, _, run_make_rowN t e i0 z ht h0 hz _ _ n n (Nat.le_refl _) (by rw [hb]; exact hbytes) h63 w, ⟨_, _, rfl⟩, ⟨by simp, .inr ⟨w.heap.size, n, _, rfl, Nat.le_refl _, heap_alloc_new w _, Nat.le_refl _, by unfold maxLen; omega, by simp [size_madeCells, hs], ?_⟩⟩, World.grownBy_alloc w _ _⟩
  rw [hz1, hs, toList_madeCells_one]
  simp
/-! ### append -/
/-- append(v, x...) onto a row of its own; the source is read. -/
theorem run_append_row {P : Program} {t e : TypeId} {z : Value} {s bytes : Nat} (ht : P.underlying t = some (.slice e)) (hi : (P.info? e).map (fun i => (i.zero, i.size, i.bytes)) = some (some z, s, bytes)) (hzs : z.cells.size = s) (hsz : 0 < s)
    {base : Nat} {v : Value} {n : Nat} {xs : List Value} {w : World} (hown : w.ownsRow base e s v n xs) {F : Nat → Prop} {x : Value} {m : Nat} {ys : List Value} (hr : RowR w s F x m ys) (h1 : ∀ u ∈ ys, u.oneCell' = true)
    (hb : (n + m) * bytes ≤ 140737488355328) (hm : n + m ≤ 140737488355328) (hbase : base ≤ w.heap.size) (ty : TypeId) :
    ∃ v' w', (Builtin.append_ #[t, t] ty #[v, x]).run P w = .ok v' w' ∧ w'.ownsRow base e s v' (n + m) (xs ++ ys) ∧ w.grownBy w' v.ownBlock ∧ (v'.ownBlock = v.ownBlock ∨ v'.ownBlock = some w.heap.size) ∧ (0 < n + m → ∃ g c, v' = .slice (some ⟨g, 0, none⟩) (n + m) c) := by
  obtain ⟨i0, h0, hz, hs, hby⟩ := info_parts hi
  obtain ⟨hl, A, c, rfl, hc, hrd⟩ := hr
  have fin : ∀ {v' : Value} {w' : World}, w'.ownsRow base e s v' (n + m) (xs ++ ys) → 0 < n + m → ∃ g c, v' = .slice (some ⟨g, 0, none⟩) (n + m) c := by
    intro v' w' ho hp
    rcases ho.2 with ⟨_, h⟩ | ⟨g, cap, cur, h, _⟩
    · omega
    · exact ⟨g, cap, h⟩
  by_cases hm0 : m = 0
  · subst hm0
    have hys : ys = [] := List.eq_nil_of_length_eq_zero (by simpa using hl)
    subst hys
    rcases A with _ | ad
    · have hrun : (Builtin.append_ #[t, t] ty #[v, .slice none 0 c]).run P w = .ok v w := by
        rcases hown.2 with ⟨rfl, rfl⟩ | ⟨g, cap, cur, rfl, _, _, hnc, _⟩
        · simp [Builtin.append_, run_underlying ht, sizeOf, typeInfo, h0, Builtin.lenOf, Builtin.firstCells]
        · simp [Builtin.append_, run_underlying ht, sizeOf, typeInfo, h0, Builtin.lenOf, Builtin.firstCells, hnc, storeCells]
      have ho : w.ownsRow base e s v (n + 0) (xs ++ []) := by simpa using hown
      exact ⟨v, w, hrun, ho, ⟨rfl, rfl, rfl, Nat.le_refl _, fun _ _ _ => rfl⟩, .inl rfl, fin ho⟩
    · obtain ⟨v', w', hrun, h2, h3, _, h5⟩ := run_append_own_at (P := P) w base t ty e i0 z s bytes ht h0 hz hs hby hzs hsz v n xs hown ad 0 c [] (by simp) (by simp) (by simp) (by unfold maxLen; omega) hb hbase
      exact ⟨v', w', hrun, h2, h3, h5, fin h2⟩
  · obtain ⟨b, o, rfl, _, _, hcell⟩ := hrd (by omega)
    obtain ⟨v', w', hrun, h2, h3, _, h5⟩ := run_append_own_at (P := P) w base t ty e i0 z s bytes ht h0 hz hs hby hzs hsz v n xs hown ⟨b, o, none⟩ m c ys hl
      (fun j u hj => by
        have := hcell j u hj
        unfold Addr.add
        by_cases hj0 : j = 0
        · subst hj0; simpa using this
        · simpa [hj0] using this) h1 (by unfold maxLen; omega) hb hbase
    exact ⟨v', w', hrun, h2, h3, h5, fin h2⟩
/-- A new block of cells is a row that can be read. -/
theorem RowR.new (w : World) (s : Nat) (n : Nat) (cs : Array Value) (t : TypeId) (h : cs.size = n * s) : RowR (w.alloc (.cells cs t)) s (fun k => k = w.heap.size) (.slice (some ⟨w.heap.size, 0, none⟩) n n) n cs.toList := by
  refine ⟨by simpa using h, _, _, rfl, Nat.le_refl _, fun _ => ⟨_, _, rfl, rfl, by simp, fun j u hj => ?_⟩⟩
  rw [cell_of_row _ w.heap.size _ cs t (0, 0) (heap_alloc_new w _)]
  simpa using hj
/-- The same, as one step of a region that draws its order: out of a run that is known. -/
theorem step_append_run {P : Program} {ops : Array Oper} {o : Oper} {a : Act} {w : World} {K : Act → World → Prop} {Q : Exit → Act → World → Prop} {E : Prop} (hgd : o.guard = none) (s x : Operand) (t : TypeId)
    (ho : o.op = .call { callee := .builtin .append, args := #[s, x], argTypes := #[t, t] }) {v xv v' : Value} {w' : World} (hs : a.eval s = v) (hx : a.eval x = xv)
    (hrun : (Builtin.append_ #[t, t] o.type #[v, xv]).run P w = .ok v' w') (h : K (a.put o.dst v') w') :
    if Region.wanted o (yielded ops a.tmps) = true then Oper.wp P o a w K Q else E := by
  have hw : Region.wanted o (yielded ops a.tmps) = true := by simp [Region.wanted, hgd]
  rw [if_pos hw]
  unfold Oper.wp execOp
  simp only [ho, resolve, invoke, builtin, Sem.run_bind, Sem.run_pure, Result.andThen_ok, List.map_toArray, List.map_cons, List.map_nil, hs, hx, hrun]
  exact h
/-- The same where the walk stands at the operation: an arm: '(at_builtin; refine wpList_append_run rfl (.tmp A) (.tmp B) T rfl rfl rfl happ ?_)'. -/
theorem wpList_append_run {P : Program} {ops : Array Oper} {rest : List Oper} {o : Oper} {a : Act} {w : World} {Q : Exit → Act → World → Prop} (hgd : o.guard = none) (s x : Operand) (t : TypeId)
    (ho : o.op = .call { callee := .builtin .append, args := #[s, x], argTypes := #[t, t] }) {v xv v' : Value} {w' : World} (hs : a.eval s = v) (hx : a.eval x = xv)
    (hrun : (Builtin.append_ #[t, t] o.type #[v, xv]).run P w = .ok v' w') (h : wpList P ops Q rest (a.put o.dst v') w') : wpList P ops Q (o :: rest) a w := by
  refine wpList_plain hgd fun K hK => ?_
  unfold Oper.wp execOp
  simp only [ho, resolve, invoke, builtin, Sem.run_bind, Sem.run_pure, Result.andThen_ok, List.map_toArray, List.map_cons, List.map_nil, hs, hx, hrun]
  exact hK _ _ h
/-! ### copy -/
/-- copy(v, x): over a whole row of its own. -/
theorem run_copy_whole {P : Program} {t e : TypeId} {base : Nat} {v : Value} {n : Nat} {xs : List Value} {w : World} (ht : P.underlying t = some (.slice e)) (hi : (P.info? e).map (·.size) = some 1)
    (hown : w.ownsRow base e 1 v n xs) {F : Nat → Prop} {x : Value} {ys : List Value} (hr : RowR w 1 F x n ys) (h1 : ∀ u ∈ ys, u.oneCell' = true) (ty : TypeId) :
    ∃ w', (Builtin.copy_ #[t, t] ty #[v, x]).run P w = .ok (goInt n) w' ∧ w'.ownsRow base e 1 v n ys ∧ w.grownBy w' v.ownBlock := by
  obtain ⟨hl, A, c, rfl, hc, hrd⟩ := hr
  rcases hown.2 with ⟨rfl, rfl⟩ | ⟨g, cap, cur, rfl, hbg, hg, hnc, hcm, hcs, htake⟩
  · have hys : ys = [] := List.eq_nil_of_length_eq_zero (by simpa using hl)
    subst hys
    exact ⟨w, run_copy_none (P := P) w t t ty e none A 0 0 0 c ht hi (by simp), World.ownsRow_nil _ _ _ _, ⟨rfl, rfl, rfl, Nat.le_refl _, fun _ _ _ => rfl⟩⟩
  · by_cases hn0 : n = 0
    · subst hn0
      have hys : ys = [] := List.eq_nil_of_length_eq_zero (by simpa using hl)
      have hxs : xs = [] := List.eq_nil_of_length_eq_zero (by simpa using hown.1)
      subst hys
      subst hxs
      exact ⟨w, run_copy_none (P := P) w t t ty e _ A 0 cap 0 c ht hi (by simp), hown, ⟨rfl, rfl, rfl, Nat.le_refl _, fun _ _ _ => rfl⟩⟩
    · obtain ⟨b, o, rfl, _, _, hcell⟩ := hrd (by omega)
      have hlen : ys.length = n := by simpa using hl
      have hcs' : cur.size = cap := by simpa using hcs
      have hr := run_copy_row (P := P) w t t ty e g 0 n cap ⟨b, o, none⟩ n c cur e ys ht hi hg (by rw [hlen]; simp)
        (fun j u hj => by
          have := hcell j u hj
          unfold Addr.add
          by_cases hj0 : j = 0
          · subst hj0; simpa using this
          · simpa [hj0] using this) (by rw [hlen]; omega) h1
      rw [hlen] at hr
      refine ⟨_, hr, ⟨hl, .inr ⟨g, cap, _, rfl, hbg, setRow_heap w g cur _ e _ hg, hnc, hcm, ?_, ?_⟩⟩, ⟨rfl, rfl, rfl, by simp, fun k _ hk => setRow_other w g k _ (fun e => hk (by simp [Value.ownBlock, e]))⟩⟩
      · simp [hlen]; omega
      · simp [hlen]
end Go.Proofs.Ytooalgnppnmeaaa
