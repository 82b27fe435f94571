/- A node put behind a list of nodes in memory. -/
import Derived.Test.YtooalgnppnmeaaaH1
namespace Go.Proofs.Ytooalgnppnmeaaa
open Go.RowKit

theorem own_one {w : World} {base : Nat} {e : TypeId} {s n : Nat} {v : Value} {xs : List Value} (h : w.ownsRow base e s v n xs) : v.oneCell' = true := by
  rcases h.2 with ⟨rfl, _⟩ | ⟨g, cap, cur, rfl, _⟩ <;> rfl

/-- append(v, n): the node stands in a new block of its own. -/
theorem nodes_push {w : World} {F : Nat → Prop} {v : Value} {ns : List Nd} (h : NodesO w F v ns) (n : Nd) (a : Value) (ha : w.ownsRow 0 3 1 a n.args.length (ints n.args)) (hd : ∀ k, a.ownBlock = some k → ¬ F k) (hlen : ns.length ≤ 1000000) :
    ∃ v' w4, (Builtin.append_ #[39, 39] 39 #[v, .slice (some ⟨w.heap.size, 0, none⟩) 1 1]).run Try.prog (w.alloc (.cells (ndCells a n).toArray 32)) = .ok v' w4 ∧
      NodesO w4 (fun k => F k ∨ a.ownBlock = some k ∨ (w.heap.size ≤ k ∧ k < w4.heap.size)) v' (ns ++ [n]) ∧ Kept (fun k => v.ownBlock = some k) w w4 ∧ (∃ g c, v' = .slice (some ⟨g, 0, none⟩) (ns.length + 1) c) := by
  obtain ⟨avs, hl, hr, hb, hp, hav⟩ := h
  have hn1 : RowR (w.alloc (.cells (ndCells a n).toArray 32)) 5 (fun k => k = w.heap.size) (.slice (some ⟨w.heap.size, 0, none⟩) 1 1) 1 (ndCells a n) := by
    have := RowR.new w 5 1 (ndCells a n).toArray 32 (by simp [ndCells])
    simpa using this
  obtain ⟨v', w4, hrun, ho, hg, hat, hs⟩ := run_append_row (P := Try.prog) (ty := 39) Try.underlying39 infoN rfl (by decide) (hr.alloc (.cells (ndCells a n).toArray 32)) hn1 (ndCells_one a n (own_one ha)) (by omega) (by omega) (Nat.zero_le _)
  have k4 : Kept (fun k => v.ownBlock = some k) w w4 := ((Kept.refl _ w).alloc _).grown hg (fun k hk _ => hk)
  have hz := k4.size
  have hz1 := hg.size
  rw [World.size_alloc] at hz1
  refine ⟨v', w4, hrun, ⟨avs ++ [a], by simp [hl], ?_, ?_, ?_, ?_⟩, k4, by simpa using hs (by omega)⟩
  · rw [flat_append _ _ _ _ hl, flat_cons, flat_nil, List.append_nil]
    simpa using ho
  · intro k hk
    rcases hat with e | e
    · exact .inl (hb k (by rw [← e]; exact hk))
    · rw [e] at hk
      injection hk with hk
      rw [World.size_alloc] at hk
      exact .inr (.inr ⟨by omega, by have := (ho.lt k (by rw [e, World.size_alloc]; exact congrArg some hk)).2; omega⟩)
  · intro i j x y k hi hj hne hx hy
    rw [List.getElem?_append] at hi hj
    split at hi
    · rename_i hil
      split at hj
      · exact hp i j x y k hi hj hne hx hy
      · obtain ⟨m, hm⟩ : ∃ m, ns[i]? = some m := ⟨_, List.getElem?_eq_getElem (by omega)⟩
        have hF := (hav i x m hi hm).2 k hx
        have hy' : y = a := by
          have := List.mem_of_getElem? hj
          simpa using this
        subst hy'
        exact hd k hy hF
    · rename_i hil
      have hx' : x = a := by
        have := List.mem_of_getElem? hi
        simpa using this
      subst hx'
      split at hj
      · rename_i hjl
        obtain ⟨m, hm⟩ : ∃ m, ns[j]? = some m := ⟨_, List.getElem?_eq_getElem (by omega)⟩
        exact hd k hx ((hav j y m hj hm).2 k hy)
      · have h1 := (List.getElem?_eq_some_iff.1 hi).1
        have h2 := (List.getElem?_eq_some_iff.1 hj).1
        simp at h1 h2
        omega
  · intro i x m hi hm
    rw [List.getElem?_append] at hi hm
    have keep : ∀ {x : Value} {m : Nd}, w.ownsRow 0 3 1 x m.args.length (ints m.args) → w4.ownsRow 0 3 1 x m.args.length (ints m.args) := fun hx => own_kept hx k4 (fun k hk hv => own_ne hx hr (by decide) k hk hv)
    split at hi
    · rename_i hil
      rw [if_pos (by omega)] at hm
      obtain ⟨h1, h2⟩ := hav i x m hi hm
      exact ⟨keep h1, fun k hk => .inl (h2 k hk)⟩
    · rename_i hil
      rw [if_neg (by omega)] at hm
      have hx' : x = a := by
        have := List.mem_of_getElem? hi
        simpa using this
      have hm' : m = n := by
        have := List.mem_of_getElem? hm
        simpa using this
      subst hx' hm'
      exact ⟨keep ha, fun k hk => .inr (.inl hk)⟩

/-- 'h.nodes = append(h.nodes, n)'. -/
theorem heap_push {w w3 : World} {F : Nat → Prop} {hb : Nat} {room : Int} {ns : List Nd} {v : Value} (h : HeapO w F hb room ns) (hc : w.cell? ⟨hb, 1, none⟩ = some v) (hF : Bnd F w) (hk : Kept No w w3)
    (n : Nd) (a : Value) (ha : w3.ownsRow w.heap.size 3 1 a n.args.length (ints n.args)) (hlen : ns.length ≤ 1000000) :
    ∃ g c w4, (Builtin.append_ #[39, 39] 39 #[v, .slice (some ⟨w3.heap.size, 0, none⟩) 1 1]).run Try.prog (w3.alloc (.cells (ndCells a n).toArray 32)) = .ok (.slice (some ⟨g, 0, none⟩) (ns.length + 1) c) w4 ∧
      w4.cell? ⟨hb, 1, none⟩ = some v ∧ w4.frozen? ⟨hb, 1, none⟩ = false ∧ (w4.setCell ⟨hb, 1, none⟩ (.slice (some ⟨g, 0, none⟩) (ns.length + 1) c)).cell? ⟨hb, 1, none⟩ = some (.slice (some ⟨g, 0, none⟩) (ns.length + 1) c) ∧
      HeapO (w4.setCell ⟨hb, 1, none⟩ (.slice (some ⟨g, 0, none⟩) (ns.length + 1) c)) (Grow F w (w4.setCell ⟨hb, 1, none⟩ (.slice (some ⟨g, 0, none⟩) (ns.length + 1) c))) hb room (ns ++ [n]) ∧
      Kept F w (w4.setCell ⟨hb, 1, none⟩ (.slice (some ⟨g, 0, none⟩) (ns.length + 1) c)) := by
  obtain ⟨v0, hcell, hfb, hn⟩ := h
  have hv : v = v0 := by
    rw [cell_of_row _ _ _ _ _ _ hcell] at hc
    simpa using hc.symm
  subst hv
  have hcell3 := hk.blk hcell (fun h => h)
  obtain ⟨v', w4, hrun, ho, k4, g, c, rfl⟩ := nodes_push (hn.keptNo hk) n a (own_zero ha) (fun k hk' hf => by have := (ha.lt k hk').1; have := hF k hf; omega) hlen
  obtain ⟨avs, _, hr, hvb, _, _⟩ := hn
  have hne : v.ownBlock ≠ some hb := own_ne_blk hr hcell (by decide)
  have hcell4 := k4.blk hcell3 hne
  have hb4 := (Array.getElem?_eq_some_iff.1 hcell4).1
  have hset := blk_set hcell4 1 (.slice (some ⟨g, 0, none⟩) (ns.length + 1) c)
  have kf : Kept F w (w4.setCell ⟨hb, 1, none⟩ (.slice (some ⟨g, 0, none⟩) (ns.length + 1) c)) :=
    ((hk.all).trans k4 (fun i _ e => hvb i e)).setCell (p := ⟨hb, 1, none⟩) (.inl hfb) _
  have hz := hk.size
  have hz4 := k4.size
  have hbl := (Array.getElem?_eq_some_iff.1 hcell).1
  refine ⟨g, c, w4, hrun, by rw [cell_of_row _ _ _ _ _ _ hcell4]; rfl, frozen_of_row _ _ _ _ _ hcell4, by rw [cell_of_row _ _ _ _ _ _ hset]; rfl, ⟨_, by simpa using hset, .inl hfb, ?_⟩, kf⟩
  have k5 : Kept (fun k => k = hb) w4 (w4.setCell ⟨hb, 1, none⟩ (.slice (some ⟨g, 0, none⟩) (ns.length + 1) c)) := (Kept.refl (fun k => k = hb) w4).setCell (p := ⟨hb, 1, none⟩) (.inl rfl) _
  obtain ⟨bvs, hl, hr5, hb5, hp5, ha5⟩ := ho
  have hz5 : (w4.setCell ⟨hb, 1, none⟩ (.slice (some ⟨g, 0, none⟩) (ns.length + 1) c)).heap.size = w4.heap.size := by simp [World.setCell]
  have fin : ∀ k, (F k ∨ a.ownBlock = some k ∨ (w3.heap.size ≤ k ∧ k < w4.heap.size)) → Grow F w (w4.setCell ⟨hb, 1, none⟩ (.slice (some ⟨g, 0, none⟩) (ns.length + 1) c)) k := by
    rintro k (h1 | h1 | ⟨h1, h2⟩)
    · exact .inl h1
    · obtain ⟨h2, h3⟩ := ha.lt k h1
      exact .inr ⟨h2, by rw [hz5]; omega⟩
    · exact .inr ⟨by omega, by rw [hz5]; exact h2⟩
  exact ⟨bvs, hl, own_kept hr5 k5 (fun k hk e => own_ne_blk hr5 hcell4 (by decide) (e ▸ hk)), fun k hk => fin k (hb5 k hk), hp5, fun i x m hi hm =>
    ⟨own_kept (ha5 i x m hi hm).1 k5 (fun k hk e => own_ne_blk (ha5 i x m hi hm).1 hcell4 (by decide) (e ▸ hk)), fun k hk => fin k ((ha5 i x m hi hm).2 k hk)⟩⟩
end Go.Proofs.Ytooalgnppnmeaaa
