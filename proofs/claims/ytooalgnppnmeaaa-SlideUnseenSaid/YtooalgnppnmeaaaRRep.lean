/- The document's heap in memory: as the program's, under another type. -/
import Derived.Test.YtooalgnppnmeaaaStore
import Derived.Test.YtooalgnppnmeaaaRefill
namespace Go.Proofs.Ytooalgnppnmeaaa
open Go.RowKit

/-- The heap at block hb. -/
def RHeapO (w : World) (F : Nat → Prop) (hb : Nat) (room : Int) (ns : List Nd) : Prop :=
  ∃ v, w.heap[hb]? = some (.cells #[.int .i64 room, v] 75 (0, 0)) ∧ F hb ∧ NodesO w F v ns
section
variable {w w' : World} {F F' G : Nat → Prop} {hb : Nat} {room : Int} {ns : List Nd}
theorem RHeapO.move (h : RHeapO w F hb room ns) (hF : ∀ k, F k → k < w.heap.size → F' k) (hm : ∀ k, F k → k < w.heap.size → w'.heap[k]? = w.heap[k]?) : RHeapO w' F' hb room ns := by
  obtain ⟨v, hc, hf, hn⟩ := h
  have hlt := (Array.getElem?_eq_some_iff.1 hc).1
  exact ⟨v, (hm hb hf hlt).trans hc, hF hb hf hlt, hn.move hF hm⟩
theorem RHeapO.mono (h : RHeapO w F hb room ns) (hF : ∀ k, F k → k < w.heap.size → F' k) : RHeapO w F' hb room ns := h.move hF (fun _ _ _ => rfl)
theorem RHeapO.kept (h : RHeapO w F hb room ns) (hk : Kept G w w') (hd : ∀ k, F k → ¬ G k) : RHeapO w' F hb room ns := h.move (fun _ hf _ => hf) (fun k hf hlt => hk.block k hlt (hd k hf))
theorem RHeapO.keptNo (h : RHeapO w F hb room ns) (hk : Kept No w w') : RHeapO w' F hb room ns := h.kept hk (fun _ _ hn => hn)
theorem RHeapO.open_ (h : RHeapO w F hb room ns) : ∃ A c, F hb ∧ hb < w.heap.size ∧ w.cell? ⟨hb, 0, none⟩ = some (.int .i64 room) ∧ w.cell? ⟨hb, 1, none⟩ = some (.slice A ns.length c) ∧ w.frozen? ⟨hb, 1, none⟩ = false ∧ NodesO w F (.slice A ns.length c) ns := by
  obtain ⟨v, hc, hf, hn⟩ := h
  obtain ⟨A, c, rfl⟩ := hn.reads.slice
  exact ⟨A, c, hf, (Array.getElem?_eq_some_iff.1 hc).1, by rw [cell_of_row _ _ _ _ _ _ hc]; rfl, by rw [cell_of_row _ _ _ _ _ _ hc]; rfl, frozen_of_row _ _ _ _ _ hc, hn⟩
end

/-- 'h.nodes = append(h.nodes, n)'. -/
theorem rheap_push {w w3 : World} {F : Nat → Prop} {hb : Nat} {room : Int} {ns : List Nd} {v : Value} (h : RHeapO w F hb room ns) (hc : w.cell? ⟨hb, 1, none⟩ = some v) (hF : Bnd F w) (hk : Kept No w w3)
    (n : Nd) (a : Value) (ha : w3.ownsRow w.heap.size 3 1 a n.args.length (ints n.args)) (hlen : ns.length ≤ 1000000) :
    ∃ g c w4, (Builtin.append_ #[39, 39] 39 #[v, .slice (some ⟨w3.heap.size, 0, none⟩) 1 1]).run Try.prog (w3.alloc (.cells (ndCells a n).toArray 32)) = .ok (.slice (some ⟨g, 0, none⟩) (ns.length + 1) c) w4 ∧
      w4.cell? ⟨hb, 1, none⟩ = some v ∧ w4.frozen? ⟨hb, 1, none⟩ = false ∧ (w4.setCell ⟨hb, 1, none⟩ (.slice (some ⟨g, 0, none⟩) (ns.length + 1) c)).cell? ⟨hb, 1, none⟩ = some (.slice (some ⟨g, 0, none⟩) (ns.length + 1) c) ∧
      RHeapO (w4.setCell ⟨hb, 1, none⟩ (.slice (some ⟨g, 0, none⟩) (ns.length + 1) c)) (Grow F w (w4.setCell ⟨hb, 1, none⟩ (.slice (some ⟨g, 0, none⟩) (ns.length + 1) c))) hb room (ns ++ [n]) ∧
      Kept F w (w4.setCell ⟨hb, 1, none⟩ (.slice (some ⟨g, 0, none⟩) (ns.length + 1) c)) := by
  obtain ⟨v0, hcell, hfb, hn⟩ := h
  have hv : v = v0 := by
    rw [cell_of_row _ _ _ _ _ _ hcell] at hc
    simpa using hc.symm
  subst hv
  have hcell3 := hk.blk hcell (fun h => h)
  obtain ⟨v', w4, hrun, ho, k4, g, c, rfl⟩ := nodes_push (hn.keptNo hk) n a (own_zero ha) (fun k hk' hf => by have := (ha.lt k hk').1; have := hF k hf; omega) hlen
  obtain ⟨avs, _, hr, hvb, _, _⟩ := hn
  have hne : v.ownBlock ≠ some hb := own_ne_blk hr hcell (by decide)
  have hcell4 := k4.blk hcell3 hne
  have hb4 := (Array.getElem?_eq_some_iff.1 hcell4).1
  have hset := blk_set hcell4 1 (.slice (some ⟨g, 0, none⟩) (ns.length + 1) c)
  have kf : Kept F w (w4.setCell ⟨hb, 1, none⟩ (.slice (some ⟨g, 0, none⟩) (ns.length + 1) c)) :=
    ((hk.all).trans k4 (fun i _ e => hvb i e)).setCell (p := ⟨hb, 1, none⟩) (.inl hfb) _
  have hz := hk.size
  have hz4 := k4.size
  have hbl := (Array.getElem?_eq_some_iff.1 hcell).1
  refine ⟨g, c, w4, hrun, by rw [cell_of_row _ _ _ _ _ _ hcell4]; rfl, frozen_of_row _ _ _ _ _ hcell4, by rw [cell_of_row _ _ _ _ _ _ hset]; rfl, ⟨_, by simpa using hset, .inl hfb, ?_⟩, kf⟩
  have k5 : Kept (fun k => k = hb) w4 (w4.setCell ⟨hb, 1, none⟩ (.slice (some ⟨g, 0, none⟩) (ns.length + 1) c)) := (Kept.refl (fun k => k = hb) w4).setCell (p := ⟨hb, 1, none⟩) (.inl rfl) _
  obtain ⟨bvs, hl, hr5, hb5, hp5, ha5⟩ := ho
  have hz5 : (w4.setCell ⟨hb, 1, none⟩ (.slice (some ⟨g, 0, none⟩) (ns.length + 1) c)).heap.size = w4.heap.size := by simp [World.setCell]
  have fin : ∀ k, (F k ∨ a.ownBlock = some k ∨ (w3.heap.size ≤ k ∧ k < w4.heap.size)) → Grow F w (w4.setCell ⟨hb, 1, none⟩ (.slice (some ⟨g, 0, none⟩) (ns.length + 1) c)) k := by
    rintro k (h1 | h1 | ⟨h1, h2⟩)
    · exact .inl h1
    · obtain ⟨h2, h3⟩ := ha.lt k h1
      exact .inr ⟨h2, by rw [hz5]; omega⟩
    · exact .inr ⟨by omega, by rw [hz5]; exact h2⟩
  exact ⟨bvs, hl, own_kept hr5 k5 (fun k hk e => own_ne_blk hr5 hcell4 (by decide) (e ▸ hk)), fun k hk => fin k (hb5 k hk), hp5, fun i x m hi hm =>
    ⟨own_kept (ha5 i x m hi hm).1 k5 (fun k hk e => own_ne_blk (ha5 i x m hi hm).1 hcell4 (by decide) (e ▸ hk)), fun k hk => fin k ((ha5 i x m hi hm).2 k hk)⟩⟩
section
variable {w : World} {F : Nat → Prop} {g c i k : Nat} {ns : List Nd} {n m : Nd} {u : Value}
/-- The same, of a heap. -/
theorem rheap_store {hb : Nat} {room : Int} (h : RHeapO w F hb room ns) (hv : w.cell? ⟨hb, 1, none⟩ = some (.slice (some ⟨g, 0, none⟩) ns.length c))
    (hst : NodesO w F (.slice (some ⟨g, 0, none⟩) ns.length c) ns → NodesO (w.setCell ⟨g, i * 5 + k, none⟩ u) F (.slice (some ⟨g, 0, none⟩) (ns.set i m).length c) (ns.set i m) ∧ w.grownBy (w.setCell ⟨g, i * 5 + k, none⟩ u) (some g)) :
    RHeapO (w.setCell ⟨g, i * 5 + k, none⟩ u) F hb room (ns.set i m) ∧ Kept F w (w.setCell ⟨g, i * 5 + k, none⟩ u) ∧ (w.setCell ⟨g, i * 5 + k, none⟩ u).cell? ⟨hb, 1, none⟩ = some (.slice (some ⟨g, 0, none⟩) (ns.set i m).length c) := by
  obtain ⟨v, hc, hf, hn⟩ := h
  have hv2 : v = .slice (some ⟨g, 0, none⟩) ns.length c := by
    rw [cell_of_row _ _ _ _ _ _ hc] at hv
    simpa using hv
  subst hv2
  obtain ⟨h1, h2⟩ := hst hn
  obtain ⟨avs, _, ho, hF, _⟩ := hn
  have hgF : F g := hF g (by simp [Value.ownBlock])
  have hne : hb ≠ g := fun e => own_ne_blk ho hc (by decide) (by rw [e]; simp [Value.ownBlock])
  have hc2 := blk_far (p := ⟨g, i * 5 + k, none⟩) hc hne u
  have hlen : (ns.set i m).length = ns.length := by simp
  rw [hlen] at h1 ⊢
  exact ⟨⟨_, hc2, hf, h1⟩, (Kept.refl F w).setCell (p := ⟨g, i * 5 + k, none⟩) (.inl hgF) u, by rw [cell_of_row _ _ _ _ _ _ hc2]; rfl⟩
end
/-- h.nodes = v. -/
theorem rheap_put {w w3 : World} {F : Nat → Prop} {hb : Nat} {room : Int} {ns ms : List Nd} {v : Value} (h : RHeapO w F hb room ns) (hk : Kept No w w3) (hv : NodesO w3 (Fr w.heap.size) v ms) :
    (∃ v0, w3.cell? ⟨hb, 1, none⟩ = some v0) ∧ w3.frozen? ⟨hb, 1, none⟩ = false ∧ hb < w3.heap.size ∧ RHeapO (w3.setCell ⟨hb, 1, none⟩ v) (Grow F w (w3.setCell ⟨hb, 1, none⟩ v)) hb room ms ∧ Kept F w (w3.setCell ⟨hb, 1, none⟩ v) := by
  obtain ⟨v0, hcell, hfb, hn⟩ := h
  have hbl := (Array.getElem?_eq_some_iff.1 hcell).1
  have hcell3 := hk.blk hcell (fun h => h)
  have hb3 := (Array.getElem?_eq_some_iff.1 hcell3).1
  have hset := blk_set hcell3 1 v
  have k3 : Kept (fun k => k = hb) w3 (w3.setCell ⟨hb, 1, none⟩ v) := (Kept.refl (fun k => k = hb) w3).setCell (p := ⟨hb, 1, none⟩) (.inl rfl) _
  have kf : Kept F w (w3.setCell ⟨hb, 1, none⟩ v) := (hk.all).setCell (p := ⟨hb, 1, none⟩) (.inl hfb) _
  refine ⟨⟨v0, by rw [cell_of_row _ _ _ _ _ _ hcell3]; rfl⟩, frozen_of_row _ _ _ _ _ hcell3, hb3, ⟨v, by simpa using hset, .inl hfb, ?_⟩, kf⟩
  refine (hv.kept k3 (fun k hf e => by unfold Fr at hf; omega)).mono (fun k hf hlt => .inr ⟨hf, hlt⟩)

/-- A new heap. -/
theorem rheap_new (w : World) (room : Int) : RHeapO (w.alloc (.cells #[.int .i64 room, .slice none 0 0] 75)) (fun k => k = w.heap.size) w.heap.size room [] :=
  ⟨_, heap_alloc_new w _, rfl, NodesO.nil _ _⟩
end Go.Proofs.Ytooalgnppnmeaaa
