/- Nodes and heaps in memory. -/
import Derived.Test.YtooalgnppnmeaaaMem
import Derived.Test.YtooalgnppnmeaaaNd
namespace Go.Proofs.Ytooalgnppnmeaaa
open Go.RowKit

/-- The cells of a node whose arguments are the slice av. -/
def ndCells (av : Value) (n : Nd) : List Value := [.int .i64 n.sym, av, .int .i64 n.mark, .bool n.pts, .int .i64 n.to]
def flat (avs : List Value) (ns : List Nd) : List Value := (avs.zip ns).flatMap fun p => ndCells p.1 p.2

theorem flat_nil : flat [] [] = [] := rfl
theorem flat_cons (a : Value) (avs : List Value) (n : Nd) (ns : List Nd) : flat (a :: avs) (n :: ns) = ndCells a n ++ flat avs ns := by simp [flat]
theorem flat_append (avs bvs : List Value) (ns ms : List Nd) (h : avs.length = ns.length) : flat (avs ++ bvs) (ns ++ ms) = flat avs ns ++ flat bvs ms := by
  unfold flat; rw [List.zip_append h, List.flatMap_append]
theorem flat_length (avs : List Value) (ns : List Nd) (h : avs.length = ns.length) : (flat avs ns).length = ns.length * 5 := by
  induction avs generalizing ns with
  | nil => cases ns with
    | nil => rfl
    | cons n ns => simp at h
  | cons a avs ih => cases ns with
    | nil => simp at h
    | cons n ns =>
      rw [flat_cons, List.length_append, ih ns (by simpa using h)]
      simp [ndCells]; omega
theorem flat_get (avs : List Value) (ns : List Nd) (i : Nat) (a : Value) (n : Nd) (ha : avs[i]? = some a) (hn : ns[i]? = some n) (k : Nat) (hk : k < 5) :
    (flat avs ns)[i * 5 + k]? = (ndCells a n)[k]? := by
  induction avs generalizing ns i with
  | nil => simp at ha
  | cons b avs ih => cases ns with
    | nil => simp at hn
    | cons m ns =>
      rw [flat_cons]
      cases i with
      | zero =>
        simp at ha hn
        subst ha; subst hn
        rw [List.getElem?_append_left (by simp [ndCells]; omega)]
        simp
      | succ i =>
        rw [List.getElem?_append_right (by simp [ndCells]; omega)]
        rw [show (i + 1) * 5 + k - (ndCells b m).length = i * 5 + k by simp [ndCells]; omega]
        exact ih ns i (by simpa using ha) (by simpa using hn)
theorem ndCells_one (av : Value) (n : Nd) (h : av.oneCell' = true) : ∀ u ∈ ndCells av n, u.oneCell' = true := by
  intro u hu
  simp only [ndCells, List.mem_cons, List.not_mem_nil, or_false] at hu
  rcases hu with rfl | rfl | rfl | rfl | rfl <;> first | rfl | exact h
theorem flat_one (avs : List Value) (ns : List Nd) (h : ∀ a : Value, a ∈ avs → a.oneCell' = true) : ∀ u ∈ flat avs ns, u.oneCell' = true := by
  intro u hu
  obtain ⟨⟨a, n⟩, hp, hu⟩ := List.mem_flatMap.1 hu
  exact ndCells_one a n (h a (List.of_mem_zip hp).1) u hu
theorem slice_one {A : Option Addr} {n c : Nat} : (Value.slice A n c).oneCell' = true := rfl

/-- The slice v reads as the nodes ns; all its blocks are F's. -/
def NodesR (w : World) (F : Nat → Prop) (v : Value) (ns : List Nd) : Prop :=
  ∃ avs : List Value, avs.length = ns.length ∧ RowR w 5 F v ns.length (flat avs ns) ∧
    ∀ (i : Nat) (a : Value) (n : Nd), avs[i]? = some a → ns[i]? = some n → RowR w 1 F a n.args.length (ints n.args)
/-- No two of these slices share a block. -/
def Apart (avs : List Value) : Prop := ∀ (i j : Nat) (a b : Value) (k : Nat), avs[i]? = some a → avs[j]? = some b → i ≠ j → a.ownBlock = some k → b.ownBlock ≠ some k
/-- v owns its row and its nodes' rows of arguments; all these blocks are F's. -/
def NodesO (w : World) (F : Nat → Prop) (v : Value) (ns : List Nd) : Prop :=
  ∃ avs : List Value, avs.length = ns.length ∧ w.ownsRow 0 32 5 v ns.length (flat avs ns) ∧ (∀ k, v.ownBlock = some k → F k) ∧ Apart avs ∧
    ∀ (i : Nat) (a : Value) (n : Nd), avs[i]? = some a → ns[i]? = some n → w.ownsRow 0 3 1 a n.args.length (ints n.args) ∧ ∀ k, a.ownBlock = some k → F k

section
variable {w w' : World} {F F' G : Nat → Prop} {v : Value} {ns : List Nd}
theorem NodesR.move (h : NodesR w F v ns) (hF : ∀ k, F k → k < w.heap.size → F' k) (hz : w.heap.size ≤ w'.heap.size) (hm : ∀ k, F k → k < w.heap.size → w'.heap[k]? = w.heap[k]?) : NodesR w' F' v ns := by
  obtain ⟨avs, hl, hr, ha⟩ := h
  exact ⟨avs, hl, hr.move hF hz hm, fun i a n h1 h2 => (ha i a n h1 h2).move hF hz hm⟩
theorem NodesR.mono (h : NodesR w F v ns) (hF : ∀ k, F k → k < w.heap.size → F' k) : NodesR w F' v ns := h.move hF (Nat.le_refl _) (fun _ _ _ => rfl)
theorem NodesR.kept (h : NodesR w F v ns) (hk : Kept G w w') (hd : ∀ k, F k → ¬ G k) : NodesR w' F v ns := h.move (fun _ hf _ => hf) hk.size (fun k hf hlt => hk.block k hlt (hd k hf))
theorem NodesR.keptNo (h : NodesR w F v ns) (hk : Kept No w w') : NodesR w' F v ns := h.kept hk (fun _ _ hn => hn)
theorem NodesO.move (h : NodesO w F v ns) (hF : ∀ k, F k → k < w.heap.size → F' k) (hm : ∀ k, F k → k < w.heap.size → w'.heap[k]? = w.heap[k]?) : NodesO w' F' v ns := by
  obtain ⟨avs, hl, hr, hb, hp, ha⟩ := h
  refine ⟨avs, hl, own_move' hr (fun k hk hlt => hm k (hb k hk) hlt), fun k hk => hF k (hb k hk) (hr.lt k hk).2, hp, fun i a n h1 h2 => ?_⟩
  obtain ⟨ho, hf⟩ := ha i a n h1 h2
  exact ⟨own_move' ho (fun k hk hlt => hm k (hf k hk) hlt), fun k hk => hF k (hf k hk) (ho.lt k hk).2⟩
theorem NodesO.mono (h : NodesO w F v ns) (hF : ∀ k, F k → k < w.heap.size → F' k) : NodesO w F' v ns := h.move hF (fun _ _ _ => rfl)
theorem NodesO.kept (h : NodesO w F v ns) (hk : Kept G w w') (hd : ∀ k, F k → ¬ G k) : NodesO w' F v ns := h.move (fun _ hf _ => hf) (fun k hf hlt => hk.block k hlt (hd k hf))
theorem NodesO.keptNo (h : NodesO w F v ns) (hk : Kept No w w') : NodesO w' F v ns := h.kept hk (fun _ _ hn => hn)
theorem NodesO.reads (h : NodesO w F v ns) : NodesR w F v ns := by
  obtain ⟨avs, hl, hr, hb, hp, ha⟩ := h
  exact ⟨avs, hl, own_reads hr hb, fun i a n h1 h2 => own_reads (ha i a n h1 h2).1 (ha i a n h1 h2).2⟩
theorem NodesO.nil (w : World) (F : Nat → Prop) : NodesO w F (.slice none 0 0) [] :=
  ⟨[], rfl, World.ownsRow_nil _ _ _ _, by simp [Value.ownBlock], fun i j a b k h => by simp at h, fun i a n h => by simp at h⟩
/-- What one node's reading gives. -/
theorem NodesR.at_ (h : NodesR w F v ns) {i : Nat} {n : Nd} (hi : ns[i]? = some n) : ∃ b o c a, v = .slice (some ⟨b, o, none⟩) ns.length c ∧ F b ∧ b < w.heap.size ∧
    w.cell? ⟨b, o + i * 5, none⟩ = some (.int .i64 n.sym) ∧ w.cell? ⟨b, o + i * 5 + 1, none⟩ = some a ∧ w.cell? ⟨b, o + i * 5 + 2, none⟩ = some (.int .i64 n.mark) ∧
    w.cell? ⟨b, o + i * 5 + 3, none⟩ = some (.bool n.pts) ∧ w.cell? ⟨b, o + i * 5 + 4, none⟩ = some (.int .i64 n.to) ∧ RowR w 1 F a n.args.length (ints n.args) := by
  obtain ⟨avs, hl, ⟨_, A, c, rfl, hc, hr⟩, ha⟩ := h
  have hlt : i < ns.length := (List.getElem?_eq_some_iff.1 hi).1
  obtain ⟨b, o, rfl, hf, hb, hx⟩ := hr (by omega)
  have hai : avs[i]? = some avs[i] := List.getElem?_eq_getElem (by omega)
  have hg := fun k hk => flat_get avs ns i avs[i] n hai hi k hk
  refine ⟨b, o, c, avs[i], rfl, hf, hb, ?_, ?_, ?_, ?_, ?_, ha i _ n hai hi⟩
  · simpa using hx (i * 5 + 0) _ (hg 0 (by omega))
  · simpa [Nat.add_assoc] using hx (i * 5 + 1) _ (hg 1 (by omega))
  · simpa [Nat.add_assoc] using hx (i * 5 + 2) _ (hg 2 (by omega))
  · simpa [Nat.add_assoc] using hx (i * 5 + 3) _ (hg 3 (by omega))
  · simpa [Nat.add_assoc] using hx (i * 5 + 4) _ (hg 4 (by omega))
theorem NodesR.slice (h : NodesR w F v ns) : ∃ A c, v = .slice A ns.length c := by obtain ⟨_, _, hr, _⟩ := h; exact hr.slice
end

/-- The heap at block hb. -/
def HeapO (w : World) (F : Nat → Prop) (hb : Nat) (room : Int) (ns : List Nd) : Prop :=
  ∃ v, w.heap[hb]? = some (.cells #[.int .i64 room, v] 91 (0, 0)) ∧ F hb ∧ NodesO w F v ns
section
variable {w w' : World} {F F' G : Nat → Prop} {hb : Nat} {room : Int} {ns : List Nd}
theorem HeapO.move (h : HeapO w F hb room ns) (hF : ∀ k, F k → k < w.heap.size → F' k) (hm : ∀ k, F k → k < w.heap.size → w'.heap[k]? = w.heap[k]?) : HeapO w' F' hb room ns := by
  obtain ⟨v, hc, hf, hn⟩ := h
  have hlt := (Array.getElem?_eq_some_iff.1 hc).1
  exact ⟨v, (hm hb hf hlt).trans hc, hF hb hf hlt, hn.move hF hm⟩
theorem HeapO.mono (h : HeapO w F hb room ns) (hF : ∀ k, F k → k < w.heap.size → F' k) : HeapO w F' hb room ns := h.move hF (fun _ _ _ => rfl)
theorem HeapO.kept (h : HeapO w F hb room ns) (hk : Kept G w w') (hd : ∀ k, F k → ¬ G k) : HeapO w' F hb room ns := h.move (fun _ hf _ => hf) (fun k hf hlt => hk.block k hlt (hd k hf))
theorem HeapO.keptNo (h : HeapO w F hb room ns) (hk : Kept No w w') : HeapO w' F hb room ns := h.kept hk (fun _ _ hn => hn)
theorem HeapO.open_ (h : HeapO w F hb room ns) : ∃ A c, F hb ∧ hb < w.heap.size ∧ w.cell? ⟨hb, 0, none⟩ = some (.int .i64 room) ∧ w.cell? ⟨hb, 1, none⟩ = some (.slice A ns.length c) ∧ w.frozen? ⟨hb, 1, none⟩ = false ∧ NodesO w F (.slice A ns.length c) ns := by
  obtain ⟨v, hc, hf, hn⟩ := h
  obtain ⟨A, c, rfl⟩ := hn.reads.slice
  exact ⟨A, c, hf, (Array.getElem?_eq_some_iff.1 hc).1, by rw [cell_of_row _ _ _ _ _ _ hc]; rfl, by rw [cell_of_row _ _ _ _ _ _ hc]; rfl, frozen_of_row _ _ _ _ _ hc, hn⟩
end

/-- Blocks from N on. -/
def Fr (N : Nat) : Nat → Prop := fun k => N ≤ k
theorem Kept.toNo {w w' : World} (h : Kept (Fr w.heap.size) w w') : Kept No w w' := ⟨h.os, h.tape, h.output, h.size, fun k hk _ => h.block k hk (fun hf => by unfold Fr at hf; omega)⟩
def Sc (N : Nat) (w : World) : Nat → Prop := fun k => N ≤ k ∧ k < w.heap.size
theorem Sc.bnd (N : Nat) (w : World) : Bnd (Sc N w) w := fun _ h => h.2
theorem Sc.grow {N : Nat} {w w' : World} (hz : w.heap.size ≤ w'.heap.size) (hN : N ≤ w.heap.size) : ∀ k, Grow (Sc N w) w w' k → Sc N w' k := by
  rintro k (h | h)
  · exact ⟨h.1, by have := h.2; omega⟩
  · exact ⟨by omega, h.2⟩
/-- The heap, in blocks from N on. -/
def HeapN (N : Nat) (w : World) (hb : Nat) (room : Int) (ns : List Nd) : Prop := HeapO w (Sc N w) hb room ns ∧ N ≤ w.heap.size
theorem HeapN.of {N : Nat} {w : World} {F : Nat → Prop} {hb : Nat} {room : Int} {ns : List Nd} (h : HeapO w F hb room ns) (hF : ∀ k, F k → k < w.heap.size → N ≤ k) : HeapN N w hb room ns := by
  have hb' : hb < w.heap.size ∧ N ≤ hb := by
    obtain ⟨v, hc, hf, _⟩ := h
    have := (Array.getElem?_eq_some_iff.1 hc).1
    exact ⟨this, hF hb hf this⟩
  exact ⟨h.mono (fun k hk hlt => ⟨hF k hk hlt, hlt⟩), by omega⟩
theorem HeapN.keptNo {N : Nat} {w w' : World} {hb : Nat} {room : Int} {ns : List Nd} (h : HeapN N w hb room ns) (hk : Kept No w w') : HeapN N w' hb room ns :=
  ⟨(h.1.keptNo hk).mono (fun k hk' _ => ⟨hk'.1, by have := hk.size; have := hk'.2; omega⟩), by have := hk.size; have := h.2; omega⟩
/-- What is behind a call that may write the heap's blocks. -/
theorem HeapN.step {N : Nat} {w w' : World} {hb : Nat} {room : Int} {ns : List Nd} (hN : N ≤ w.heap.size) (hz : w.heap.size ≤ w'.heap.size) (h : HeapO w' (Grow (Sc N w) w w') hb room ns) : HeapN N w' hb room ns :=
  ⟨h.mono (fun k hk _ => Sc.grow hz hN k hk), by omega⟩
end Go.Proofs.Ytooalgnppnmeaaa
