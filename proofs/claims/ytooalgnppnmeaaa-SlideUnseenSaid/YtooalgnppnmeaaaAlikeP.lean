/- Alike: plain data, and a table of rows in memory. -/
import Derived.Test.YtooalgnppnmeaaaView
import Derived.Test.YtooalgnppnmeaaaH4
import Derived.Test.YtooalgnppnmeaaaGood
namespace Go.Proofs.Ytooalgnppnmeaaa
open Go.RowKit

/-- Two lists' nodes that have the same terms, as a relation that goes on beneath. -/
structure Bisim (l m : List Nd) (R : Int → Int → Prop) : Prop where
  app : ∀ x y, R x y → ∃ n k, ndAt l x = some n ∧ ndAt m y = some k ∧ n.sym = k.sym ∧ n.args.length = k.args.length ∧ n.args.length ≤ 6
  down : ∀ x y, R x y → ∀ n k, ndAt l x = some n → ndAt m y = some k → ∀ (i : Nat) c d, n.args[i]? = some c → k.args[i]? = some d → ∃ c' d', Is l c c' ∧ Is m d d' ∧ R c' d'

def pairs (ps : List (Int × Int)) : List Value := ps.flatMap fun p => [.int .i64 p.1, .int .i64 p.2]
theorem pairs_length (ps : List (Int × Int)) : (pairs ps).length = ps.length * 2 := by
  induction ps with
  | nil => rfl
  | cons p ps ih => unfold pairs at *; rw [List.flatMap_cons, List.length_append, ih]; simp; omega
theorem pairs_append (ps qs : List (Int × Int)) : pairs (ps ++ qs) = pairs ps ++ pairs qs := by simp [pairs]
theorem pairs_get {ps : List (Int × Int)} {i : Nat} {p : Int × Int} (h : ps[i]? = some p) : (pairs ps)[i * 2]? = some (.int .i64 p.1) ∧ (pairs ps)[i * 2 + 1]? = some (.int .i64 p.2) := by
  induction ps generalizing i with
  | nil => simp at h
  | cons q ps ih =>
    unfold pairs at *
    rw [List.flatMap_cons]
    cases i with
    | zero => simp at h; subst h; simp
    | succ i =>
      have := ih (i := i) (by simpa using h)
      refine ⟨?_, ?_⟩
      · rw [List.getElem?_append_right (by simp; omega)]
        rw [show (i + 1) * 2 - [Value.int IntKind.i64 q.1, Value.int IntKind.i64 q.2].length = i * 2 by simp; omega]
        exact this.1
      · rw [List.getElem?_append_right (by simp; omega)]
        rw [show (i + 1) * 2 + 1 - [Value.int IntKind.i64 q.1, Value.int IntKind.i64 q.2].length = i * 2 + 1 by simp; omega]
        exact this.2
theorem pairs_one (ps : List (Int × Int)) : ∀ u ∈ pairs ps, u.oneCell' = true := by
  intro u hu
  obtain ⟨p, _, hu⟩ := List.mem_flatMap.1 hu
  simp at hu
  rcases hu with rfl | rfl <;> rfl
/-- How many are true. -/
def trues (D : List (List Bool)) : Nat := (D.map fun r => r.count true).sum
theorem trues_set {D : List (List Bool)} {i : Nat} {r r' : List Bool} (h : D[i]? = some r) : trues (D.set i r') + r.count true = trues D + r'.count true := by
  induction D generalizing i with
  | nil => simp at h
  | cons q D ih =>
    cases i with
    | zero => simp at h; subst h; simp [trues, List.set_cons_zero]; omega
    | succ i =>
      have := ih (i := i) (by simpa using h)
      simp only [trues, List.set_cons_succ, List.map_cons, List.sum_cons] at this ⊢
      omega
theorem trues_le {D : List (List Bool)} {n : Nat} (h : ∀ r ∈ D, r.length = n) : trues D ≤ D.length * n := by
  induction D with
  | nil => simp [trues]
  | cons q D ih =>
    have h1 := ih (fun r hr => h r (List.mem_cons_of_mem _ hr))
    have h2 := h q List.mem_cons_self
    have h3 := List.count_le_length (a := true) (l := q)
    simp only [trues, List.map_cons, List.sum_cons, List.length_cons, Nat.succ_mul] at h1 ⊢
    omega
theorem count_set_true {r : List Bool} {i : Nat} (h : r[i]? = some false) : (r.set i true).count true = r.count true + 1 := by
  induction r generalizing i with
  | nil => simp at h
  | cons b r ih =>
    cases i with
    | zero => simp at h; subst h; simp [List.set_cons_zero]
    | succ i =>
      have := ih (i := i) (by simpa using h)
      simp only [List.set_cons_succ, List.count_cons, this]
      omega

/-- A table: rows of truth values, some of them not there yet. -/
structure TabO (w : World) (base : Nat) (tv : Value) (rows : List Value) (D : List (List Bool)) (m : Nat) : Prop where
  len : rows.length = D.length
  own : w.ownsRow base 83 1 tv rows.length rows
  all : ∀ r ∈ D, r.length = m
  ent : ∀ (i : Nat) (v : Value) (r : List Bool), rows[i]? = some v → D[i]? = some r → (v = .slice none 0 0 ∧ r = List.replicate m false) ∨ ((∃ g c, v = .slice (some ⟨g, 0, none⟩) m c) ∧ w.ownsRow base 4 1 v m (bools r))
  apart : ∀ (i j : Nat) (a b : Value) (k : Nat), rows[i]? = some a → rows[j]? = some b → i ≠ j → a.ownBlock = some k → b.ownBlock ≠ some k
/-- A row that is there, at one place. -/
theorem TabO.put {w : World} {base : Nat} {tv : Value} {rows : List Value} {D : List (List Bool)} {m : Nat} (h : TabO w base tv rows D m) {i g c y : Nat} {r : List Bool} (hv : rows[i]? = some (.slice (some ⟨g, 0, none⟩) m c)) (hr : D[i]? = some r) (ho : w.ownsRow base 4 1 (.slice (some ⟨g, 0, none⟩) m c) m (bools r)) :
    TabO (w.setCell ⟨g, y, none⟩ (.bool true)) base tv rows (D.set i (r.set y true)) m ∧ w.grownBy (w.setCell ⟨g, y, none⟩ (.bool true)) (some g) := by
  obtain ⟨st1, st2⟩ := ho.stored y (.bool true)
  rw [bools_set] at st1
  have hk := Kept.of_grown st2 (F := fun b => b = g) (fun k hk _ => by injection hk with hk; exact hk.symm)
  have hrl := h.all r (List.mem_of_getElem? hr)
  refine ⟨⟨by simpa using h.len, own_kept h.own hk (fun b hb e => ?_), fun q hq => ?_, fun j v q hj hq => ?_, h.apart⟩, st2⟩
  · exact own_ne h.own ho (by decide) b hb (by rw [e]; simp [Value.ownBlock])
  · rcases List.mem_or_eq_of_mem_set hq with hq | rfl
    · exact h.all q hq
    · simpa using hrl
  · rw [List.getElem?_set] at hq
    split at hq
    · rename_i hij
      subst hij
      split at hq
      · have hq : r.set y true = q := by simpa using hq
        rw [hv] at hj
        have hj : Value.slice (some ⟨g, 0, none⟩) m c = v := by simpa using hj
        subst hj; subst hq
        exact .inr ⟨⟨g, c, rfl⟩, st1⟩
      · cases hq
    · rename_i hij
      rcases h.ent j v q hj hq with h1 | ⟨h1, h2⟩
      · exact .inl h1
      · exact .inr ⟨h1, own_kept h2 hk (fun b hb e => h.apart i j _ v g hv hj hij (by simp [Value.ownBlock]) (by rw [← e]; exact hb))⟩
theorem TabO.kept {w w' : World} {base : Nat} {tv : Value} {rows : List Value} {D : List (List Bool)} {m : Nat} {G : Nat → Prop} (h : TabO w base tv rows D m) (hk : Kept G w w') (hd1 : ∀ b, tv.ownBlock = some b → ¬ G b) (hd2 : ∀ v ∈ rows, ∀ b, v.ownBlock = some b → ¬ G b) : TabO w' base tv rows D m :=
  ⟨h.len, own_kept h.own hk hd1, h.all, fun i v r hv hr => by
    rcases h.ent i v r hv hr with h1 | ⟨h1, h2⟩
    · exact .inl h1
    · exact .inr ⟨h1, own_kept h2 hk (hd2 v (List.mem_of_getElem? hv))⟩, h.apart⟩
theorem TabO.row_lt {w : World} {base : Nat} {tv : Value} {rows : List Value} {D : List (List Bool)} {m : Nat} (h : TabO w base tv rows D m) : ∀ v ∈ rows, ∀ b, v.ownBlock = some b → base ≤ b ∧ b < w.heap.size := by
  intro v hv b hb
  obtain ⟨i, hi⟩ := List.getElem?_of_mem hv
  have hl := (List.getElem?_eq_some_iff.1 hi).1
  rw [h.len] at hl
  rcases h.ent i v _ hi (List.getElem?_eq_getElem hl) with ⟨h1, _⟩ | ⟨_, h2⟩
  · rw [h1] at hb; simp [Value.ownBlock] at hb
  · exact h2.lt b hb
theorem rows_off {w : World} {base base' : Nat} {tv u : Value} {rows : List Value} {D : List (List Bool)} {m s n : Nat} {e : TypeId} {xs : List Value} (h : TabO w base tv rows D m) (hu : w.ownsRow base' e s u n xs) (hne : e ≠ 4) : ∀ v ∈ rows, ∀ b, v.ownBlock = some b → u.ownBlock ≠ some b := by
  intro v hv b hb hub
  obtain ⟨i, hi⟩ := List.getElem?_of_mem hv
  have hl := (List.getElem?_eq_some_iff.1 hi).1
  rw [h.len] at hl
  rcases h.ent i v _ hi (List.getElem?_eq_getElem hl) with ⟨h1, _⟩ | ⟨_, h2⟩
  · rw [h1] at hb; simp [Value.ownBlock] at hb
  · exact own_ne hu h2 hne b hub hb
/-- A row is laid: first the row, then its place. -/
theorem TabO.lay {w w1 : World} {base : Nat} {tg tc : Nat} {rows : List Value} {D : List (List Bool)} {m : Nat} (h : TabO w base (.slice (some ⟨tg, 0, none⟩) rows.length tc) rows D m) {i g c : Nat} (hi : rows[i]? = some (.slice none 0 0)) (hk : Kept No w w1) (hg : w.heap.size ≤ g) (ho : w1.ownsRow base 4 1 (.slice (some ⟨g, 0, none⟩) m c) m (bools (List.replicate m false))) :
    TabO (w1.setCell ⟨tg, i, none⟩ (.slice (some ⟨g, 0, none⟩) m c)) base (.slice (some ⟨tg, 0, none⟩) rows.length tc) (rows.set i (.slice (some ⟨g, 0, none⟩) m c)) D m ∧ w1.grownBy (w1.setCell ⟨tg, i, none⟩ (.slice (some ⟨g, 0, none⟩) m c)) (some tg) ∧
      w1.frozen? ⟨tg, i, none⟩ = false ∧ w1.cell? ⟨tg, i, none⟩ = some (.slice none 0 0) := by
  have hil := (List.getElem?_eq_some_iff.1 hi).1
  have h1 := h.kept hk (fun _ _ hn => hn) (fun _ _ _ _ hn => hn)
  have hown := h1.own
  obtain ⟨st1, st2⟩ := hown.stored i (.slice (some ⟨g, 0, none⟩) m c)
  have hkk := Kept.of_grown st2 (F := fun b => b = tg) (fun k hk _ => by injection hk with hk; exact hk.symm)
  have ho' := own_kept ho hkk (fun b hb e => own_ne hown ho (by decide) b (by rw [e]; simp [Value.ownBlock]) hb)
  have hlt := h.row_lt
  refine ⟨⟨by simpa using h.len, by simpa using st1, h.all, fun j v r hj hr => ?_, fun j k a b x hj hk2 hne ha => ?_⟩, st2, h1.own.frozenAt i, by rw [h1.own.cellAt i (by omega)]; exact hi⟩
  · rw [List.getElem?_set] at hj
    split at hj
    · rename_i hij
      subst hij
      have hj : Value.slice (some ⟨g, 0, none⟩) m c = v := by simpa using hj
      subst hj
      have hr2 : r = List.replicate m false := by
        rcases h.ent i _ r hi hr with ⟨_, h3⟩ | ⟨⟨_, _, h3⟩, _⟩
        · exact h3
        · cases h3
      rw [hr2]
      exact .inr ⟨⟨g, c, rfl⟩, ho'⟩
    · rcases h1.ent j v r hj hr with h3 | ⟨h3, h4⟩
      · exact .inl h3
      · exact .inr ⟨h3, own_kept h4 hkk (fun b hb e => own_ne hown h4 (by decide) b (by rw [e]; simp [Value.ownBlock]) hb)⟩
  · rw [List.getElem?_set] at hj hk2
    split at hj
    · rename_i hij
      have hj : Value.slice (some ⟨g, 0, none⟩) m c = a := by simpa using hj
      subst hj
      rw [if_neg (by omega)] at hk2
      intro hbx
      have hgx : g = x := by simpa [Value.ownBlock] using ha
      have := (hlt b (List.mem_of_getElem? hk2) x hbx).2
      omega
    · split at hk2
      · rename_i hik
        have hk2 : Value.slice (some ⟨g, 0, none⟩) m c = b := by simpa using hk2
        subst hk2
        intro hbx
        have hgx : g = x := by simpa [Value.ownBlock] using hbx
        have := (hlt a (List.mem_of_getElem? hj) x ha).2
        omega
      · exact h.apart j k a b x hj hk2 hne ha
end Go.Proofs.Ytooalgnppnmeaaa
