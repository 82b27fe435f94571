/- A cell of a node is written. -/
import Derived.Test.YtooalgnppnmeaaaPush
namespace Go.Proofs.Ytooalgnppnmeaaa
open Go.RowKit

theorem flat_store {avs : List Value} {ns : List Nd} (hl : avs.length = ns.length) {i k : Nat} {a a' : Value} {n m : Nd} {u : Value} (ha : avs[i]? = some a) (hn : ns[i]? = some n) (hk : k < 5) (hc : (ndCells a n).set k u = ndCells a' m) :
    (flat avs ns).set (i * 5 + k) u = flat (avs.set i a') (ns.set i m) := by
  induction avs generalizing ns i with
  | nil => simp at ha
  | cons b avs ih => cases ns with
    | nil => simp at hn
    | cons c ns =>
      cases i with
      | zero =>
        simp at ha hn
        subst ha; subst hn
        simp only [List.set_cons_zero]
        rw [flat_cons, flat_cons, ← hc, List.set_append_left _ _ (by simp [ndCells]; omega)]
        simp
      | succ i =>
        simp only [List.set_cons_succ]
        rw [flat_cons, flat_cons, List.set_append_right _ _ (by simp [ndCells]; omega)]
        rw [show (i + 1) * 5 + k - (ndCells b c).length = i * 5 + k by simp [ndCells]; omega]
        rw [ih (by simpa using hl) (by simpa using ha) (by simpa using hn)]

/-- What one node's cells are, in a row of its own. -/
theorem NodesO.at_ {w : World} {F : Nat → Prop} {v : Value} {ns : List Nd} (h : NodesO w F v ns) {i : Nat} {n : Nd} (hi : ns[i]? = some n) : ∃ g c a, v = .slice (some ⟨g, 0, none⟩) ns.length c ∧ F g ∧ g < w.heap.size ∧
    w.cell? ⟨g, i * 5, none⟩ = some (.int .i64 n.sym) ∧ w.cell? ⟨g, i * 5 + 1, none⟩ = some a ∧ w.cell? ⟨g, i * 5 + 2, none⟩ = some (.int .i64 n.mark) ∧
    w.cell? ⟨g, i * 5 + 3, none⟩ = some (.bool n.pts) ∧ w.cell? ⟨g, i * 5 + 4, none⟩ = some (.int .i64 n.to) ∧ (∀ j, w.frozen? ⟨g, j, none⟩ = false) ∧ RowR w 1 F a n.args.length (ints n.args) := by
  have hlt : i < ns.length := (List.getElem?_eq_some_iff.1 hi).1
  obtain ⟨b, o, c, a, rfl, h1, h2, c0, c1, c2, c3, c4, hr⟩ := h.reads.at_ hi
  obtain ⟨avs, _, ho, _⟩ := h
  obtain ⟨g, c', hv, _⟩ := ho.form (by omega)
  injection hv with hv _ hc
  injection hv with hv
  injection hv with hb ho'
  subst hb; subst ho'; subst hc
  simp only [Nat.zero_add] at c0 c1 c2 c3 c4
  exact ⟨_, _, _, rfl, h1, h2, c0, c1, c2, c3, c4, fun j => ho.frozenAt j, hr⟩

section
variable {w : World} {F : Nat → Prop} {g c i k : Nat} {ns : List Nd} {n m : Nd} {u : Value}
theorem nodes_store (h : NodesO w F (.slice (some ⟨g, 0, none⟩) ns.length c) ns) (hi : ns[i]? = some n) (hk : k < 5) (hm : m.args = n.args) (hc : ∀ a, (ndCells a n).set k u = ndCells a m) :
    NodesO (w.setCell ⟨g, i * 5 + k, none⟩ u) F (.slice (some ⟨g, 0, none⟩) (ns.set i m).length c) (ns.set i m) ∧ w.grownBy (w.setCell ⟨g, i * 5 + k, none⟩ u) (some g) := by
  obtain ⟨avs, hl, ho, hF, hp, ha⟩ := h
  obtain ⟨h1, h2⟩ := ho.stored (i * 5 + k) u
  have hlt : i < ns.length := (List.getElem?_eq_some_iff.1 hi).1
  have hai : avs[i]? = some avs[i] := List.getElem?_eq_getElem (by omega)
  rw [flat_store hl hai hi hk (hc avs[i])] at h1
  have hset : avs.set i avs[i] = avs := by simp
  rw [hset] at h1
  refine ⟨⟨avs, by simpa using hl, by simpa using h1, hF, hp, fun j x y hj hy => ?_⟩, h2⟩
  have kk : Kept (fun k => k = g) w (w.setCell ⟨g, i * 5 + k, none⟩ u) := (Kept.refl (fun k => k = g) w).setCell (p := ⟨g, i * 5 + k, none⟩) (.inl rfl) _
  obtain ⟨z, hz, hza⟩ : ∃ z, ns[j]? = some z ∧ z.args = y.args := by
    rw [List.getElem?_set] at hy
    split at hy
    · rename_i hij
      subst hij
      have hy : m = y := by simpa [hlt] using hy
      exact ⟨n, hi, by rw [← hy, hm]⟩
    · exact ⟨y, hy, rfl⟩
  obtain ⟨o1, o2⟩ := ha j x z hj hz
  rw [hza] at o1
  exact ⟨own_kept o1 kk (fun k hk e => own_ne o1 ho (by decide) k hk (by rw [e]; simp [Value.ownBlock])), o2⟩
theorem nodes_storeA (h : NodesO w F (.slice (some ⟨g, 0, none⟩) ns.length c) ns) (hi : ns[i]? = some n) (hm : m = { n with args := [] }) :
    NodesO (w.setCell ⟨g, i * 5 + 1, none⟩ (.slice none 0 0)) F (.slice (some ⟨g, 0, none⟩) (ns.set i m).length c) (ns.set i m) ∧ w.grownBy (w.setCell ⟨g, i * 5 + 1, none⟩ (.slice none 0 0)) (some g) := by
  obtain ⟨avs, hl, ho, hF, hp, ha⟩ := h
  obtain ⟨h1, h2⟩ := ho.stored (i * 5 + 1) (.slice none 0 0)
  have hlt : i < ns.length := (List.getElem?_eq_some_iff.1 hi).1
  have hai : avs[i]? = some avs[i] := List.getElem?_eq_getElem (by omega)
  rw [flat_store (m := m) (a' := .slice none 0 0) hl hai hi (by omega) (by subst hm; simp [ndCells])] at h1
  have kk : Kept (fun k => k = g) w (w.setCell ⟨g, i * 5 + 1, none⟩ (.slice none 0 0)) := (Kept.refl (fun k => k = g) w).setCell (p := ⟨g, i * 5 + 1, none⟩) (.inl rfl) _
  refine ⟨⟨avs.set i (.slice none 0 0), by simpa using hl, by simpa using h1, hF, fun j1 j2 x y k hx hy hne h3 h4 => ?_, fun j x y hj hy => ?_⟩, h2⟩
  · rw [List.getElem?_set] at hx hy
    split at hx
    · split at hx
      · injection hx with hx
        subst hx
        simp [Value.ownBlock] at h3
      · cases hx
    · split at hy
      · split at hy
        · injection hy with hy
          subst hy
          simp [Value.ownBlock] at h4
        · cases hy
      · exact hp j1 j2 x y k hx hy hne h3 h4
  · rw [List.getElem?_set] at hj hy
    split at hj
    · rename_i hij
      rw [if_pos hij] at hy
      split at hj
      · rename_i hlt2
        rw [if_pos (by omega)] at hy
        injection hj with hj
        injection hy with hy
        subst hj
        subst hy
        subst hm
        exact ⟨World.ownsRow_nil _ _ _ _, by simp [Value.ownBlock]⟩
      · cases hj
    · rename_i hij
      rw [if_neg hij] at hy
      obtain ⟨o1, o2⟩ := ha j x y hj hy
      exact ⟨own_kept o1 kk (fun k hk e => own_ne o1 ho (by decide) k hk (by rw [e]; simp [Value.ownBlock])), o2⟩

/-- The same, of a heap. -/
theorem heap_store {hb : Nat} {room : Int} (h : HeapO w F hb room ns) (hv : w.cell? ⟨hb, 1, none⟩ = some (.slice (some ⟨g, 0, none⟩) ns.length c))
    (hst : NodesO w F (.slice (some ⟨g, 0, none⟩) ns.length c) ns → NodesO (w.setCell ⟨g, i * 5 + k, none⟩ u) F (.slice (some ⟨g, 0, none⟩) (ns.set i m).length c) (ns.set i m) ∧ w.grownBy (w.setCell ⟨g, i * 5 + k, none⟩ u) (some g)) :
    HeapO (w.setCell ⟨g, i * 5 + k, none⟩ u) F hb room (ns.set i m) ∧ Kept F w (w.setCell ⟨g, i * 5 + k, none⟩ u) ∧ (w.setCell ⟨g, i * 5 + k, none⟩ u).cell? ⟨hb, 1, none⟩ = some (.slice (some ⟨g, 0, none⟩) (ns.set i m).length c) := by
  obtain ⟨v, hc, hf, hn⟩ := h
  have hv2 : v = .slice (some ⟨g, 0, none⟩) ns.length c := by
    rw [cell_of_row _ _ _ _ _ _ hc] at hv
    simpa using hv
  subst hv2
  obtain ⟨h1, h2⟩ := hst hn
  obtain ⟨avs, _, ho, hF, _⟩ := hn
  have hgF : F g := hF g (by simp [Value.ownBlock])
  have hne : hb ≠ g := fun e => own_ne_blk ho hc (by decide) (by rw [e]; simp [Value.ownBlock])
  have hc2 := blk_far (p := ⟨g, i * 5 + k, none⟩) hc hne u
  have hlen : (ns.set i m).length = ns.length := by simp
  rw [hlen] at h1 ⊢
  exact ⟨⟨_, hc2, hf, h1⟩, (Kept.refl F w).setCell (p := ⟨g, i * 5 + k, none⟩) (.inl hgF) u, by rw [cell_of_row _ _ _ _ _ _ hc2]; rfl⟩
end
end Go.Proofs.Ytooalgnppnmeaaa
