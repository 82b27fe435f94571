/- Several rows of numbers side by side, and a row of such rows. -/
import Derived.Test.YtooalgnppnmeaaaMay
import Derived.Test.YtooalgnppnmeaaaKahn
namespace Go.Proofs.Ytooalgnppnmeaaa
open Go.RowKit

/-- Each of these slices owns a row of numbers; no two share a block. -/
structure IntRows (w : World) (base : Nat) (vs : List Value) (ls : List (List Int)) : Prop where
  len : vs.length = ls.length
  row : ∀ (i : Nat) (v : Value) (l : List Int), vs[i]? = some v → ls[i]? = some l → w.ownsRow base 3 1 v l.length (ints l)
  apart : Apart vs
theorem IntRows.get {w : World} {base : Nat} {vs : List Value} {ls : List (List Int)} (h : IntRows w base vs ls) {i : Nat} {v : Value} (hv : vs[i]? = some v) : ∃ l, ls[i]? = some l ∧ w.ownsRow base 3 1 v l.length (ints l) := by
  have hi := (List.getElem?_eq_some_iff.1 hv).1
  have hl : ls[i]? = some (ls[i]'(by have := h.len; omega)) := List.getElem?_eq_getElem (by have := h.len; omega)
  exact ⟨_, hl, h.row i v _ hv hl⟩
/-- Blocks of none of them are written. -/
theorem IntRows.other {w w' : World} {base : Nat} {vs : List Value} {ls : List (List Int)} (h : IntRows w base vs ls) {G : Nat → Prop} (hk : Kept G w w') (hd : ∀ (i : Nat) (v : Value) (k : Nat), vs[i]? = some v → v.ownBlock = some k → ¬ G k) : IntRows w' base vs ls :=
  ⟨h.len, fun i v l hv hl => own_kept (h.row i v l hv hl) hk (fun k hk2 => hd i v k hv hk2), h.apart⟩
theorem IntRows.keptNo {w w' : World} {base : Nat} {vs : List Value} {ls : List (List Int)} (h : IntRows w base vs ls) (hk : Kept No w w') : IntRows w' base vs ls := h.other hk (fun _ _ _ _ _ hn => hn)
/-- One is written, or takes a new block. -/
theorem IntRows.put {w w' : World} {base : Nat} {vs : List Value} {ls : List (List Int)} (h : IntRows w base vs ls) {i : Nat} {v v' : Value} {l' : List Int} (hv : vs[i]? = some v) (hk : Kept (fun k => v.ownBlock = some k) w w')
    (ho : w'.ownsRow base 3 1 v' l'.length (ints l')) (hb : ∀ k, v'.ownBlock = some k → v.ownBlock = some k ∨ w.heap.size ≤ k) : IntRows w' base (vs.set i v') (ls.set i l') := by
  have hi := (List.getElem?_eq_some_iff.1 hv).1
  have old : ∀ (j : Nat) (u : Value) (k : Nat), j ≠ i → vs[j]? = some u → u.ownBlock = some k → v'.ownBlock ≠ some k := by
    intro j u k hj hu hk2 h3
    obtain ⟨l, _, hrow⟩ := h.get hu
    rcases hb k h3 with h4 | h4
    · exact h.apart j i u v k hu hv hj hk2 h4
    · have := (hrow.lt k hk2).2; omega
  refine ⟨by simpa using h.len, fun j u m hu hm => ?_, fun a b x y k hx hy hne h1 h2 => ?_⟩
  · rw [List.getElem?_set] at hu hm
    split at hu
    · rename_i hij
      subst hij
      have e1 : v' = u := by simpa [hi] using hu
      have e2 : l' = m := by
        have := h.len
        simpa [show i < ls.length by omega] using hm
      subst e1; subst e2
      exact ho
    · rename_i hij
      rw [if_neg hij] at hm
      exact own_kept (h.row j u m hu hm) hk (fun k hk2 hk3 => h.apart j i u v k hu hv (Ne.symm hij) hk2 hk3)
  · rw [List.getElem?_set] at hx hy
    split at hx
    · rename_i hia
      subst hia
      rw [if_neg (by omega)] at hy
      have e1 : v' = x := by simpa [hi] using hx
      subst e1
      exact old b y k (Ne.symm hne) hy h2 h1
    · rename_i hia
      split at hy
      · rename_i hib
        subst hib
        have e1 : v' = y := by simpa [hi] using hy
        subst e1
        exact old a x k (Ne.symm hia) hx h1 h2
      · exact h.apart a b x y k hx hy hne h1 h2

/-- The lists of 'ring'. X's blocks are none of theirs. -/
def KMem (X : Nat → Prop) (vs : List Value) (w0 w : World) (wv av fv : Value) (n : Nat) (wants : List Int) (ab : List (List Int)) (free : List Int) : Prop :=
  IntRows w w0.heap.size (wv :: fv :: vs) (wants :: free :: ab) ∧ w.ownsRow w0.heap.size 22 1 av n vs ∧ Kept No w0 w ∧
    ∀ k, X k → k < w.heap.size ∧ ∀ u ∈ av :: wv :: fv :: vs, u.ownBlock ≠ some k

theorem rows_one {w : World} {base : Nat} {vs : List Value} {ls : List (List Int)} (h : IntRows w base vs ls) : ∀ u ∈ vs, u.oneCell' = true := by
  intro u hu
  obtain ⟨i, hi⟩ := List.getElem?_of_mem hu
  obtain ⟨l, _, hr⟩ := h.get hi
  exact own_one hr
section
variable {X : Nat → Prop} {vs : List Value} {w0 w w' : World} {wv av fv : Value} {n : Nat} {wants : List Int} {ab : List (List Int)} {free : List Int}
theorem KMem.kept (h : KMem X vs w0 w wv av fv n wants ab free) : Kept No w0 w := h.2.2.1
theorem KMem.keptNo (h : KMem No vs w0 w wv av fv n wants ab free) (hk : Kept No w w') : KMem No vs w0 w' wv av fv n wants ab free := by
  obtain ⟨h1, h2, h3, _⟩ := h
  exact ⟨h1.keptNo hk, own_kept h2 hk (fun _ _ hn => hn), h3.thenNo hk, fun _ hx => hx.elim⟩
theorem KMem.wantsRow (h : KMem X vs w0 w wv av fv n wants ab free) : w.ownsRow w0.heap.size 3 1 wv wants.length (ints wants) := by
  obtain ⟨h1, _, _, _⟩ := h
  exact h1.row 0 _ _ rfl rfl
theorem KMem.freeRow (h : KMem X vs w0 w wv av fv n wants ab free) : w.ownsRow w0.heap.size 3 1 fv free.length (ints free) := by
  obtain ⟨h1, _, _, _⟩ := h
  exact h1.row 1 _ _ rfl rfl
/-- A row other than the row of rows is put. -/
theorem KMem.put1 (h : KMem X vs w0 w wv av fv n wants ab free) {wv' fv' v v' : Value} {wants' free' l' : List Int} {i : Nat} (hi : i < 2) (hv : [wv, fv][i]? = some v) (hk : Kept (fun k => v.ownBlock = some k) w w')
    (ho : w'.ownsRow w0.heap.size 3 1 v' l'.length (ints l')) (hb : ∀ k, v'.ownBlock = some k → v.ownBlock = some k ∨ w.heap.size ≤ k)
    (e1 : [wv, fv].set i v' = [wv', fv']) (e2 : [wants, free].set i l' = [wants', free']) : KMem X vs w0 w' wv' av fv' n wants' ab free' := by
  obtain ⟨h1, h2, h3, hX⟩ := h
  have hv2 : (wv :: fv :: vs)[i]? = some v := by
    match i, hi, hv with
    | 0, _, hv => simpa using hv
    | 1, _, hv => simpa using hv
  have h4 := h1.put hv2 hk ho hb
  obtain ⟨l, _, hrow⟩ := h1.get hv2
  have hvm : v ∈ av :: wv :: fv :: vs := List.mem_cons_of_mem _ (List.mem_of_getElem? hv2)
  refine ⟨?_, own_kept h2 hk (fun k hk2 hk3 => own_ne h2 hrow (by decide) k hk2 hk3), h3.trans hk (fun k hlt hk3 => by have := (hrow.lt k hk3).1; omega), fun k hx => ⟨by have := (hX k hx).1; have := hk.size; omega, fun u hu hb2 => ?_⟩⟩
  · match i, hi, e1, e2 with
    | 0, _, e1, e2 =>
      simp at e1 e2
      obtain ⟨rfl, rfl⟩ := e1
      obtain ⟨rfl, rfl⟩ := e2
      exact h4
    | 1, _, e1, e2 =>
      simp at e1 e2
      obtain ⟨rfl, rfl⟩ := e1
      obtain ⟨rfl, rfl⟩ := e2
      exact h4
  · have hm : u ∈ av :: wv :: fv :: vs ∨ u = v' := by
      have h5 : ∀ u ∈ [wv', fv'], u ∈ [wv, fv] ∨ u = v' := fun u hu => List.mem_or_eq_of_mem_set (e1 ▸ hu)
      simp only [List.mem_cons, List.not_mem_nil, or_false] at hu h5 ⊢
      rcases hu with h | h | h | h
      · exact .inl (.inl h)
      · rcases h5 u (.inl h) with (h | h) | h
        · exact .inl (.inr (.inl h))
        · exact .inl (.inr (.inr (.inl h)))
        · exact .inr h
      · rcases h5 u (.inr h) with (h | h) | h
        · exact .inl (.inr (.inl h))
        · exact .inl (.inr (.inr (.inl h)))
        · exact .inr h
      · exact .inl (.inr (.inr (.inr h)))
    rcases hm with hm | rfl
    · exact (hX k hx).2 u hm hb2
    · rcases hb k hb2 with h | h
      · exact (hX k hx).2 v hvm h
      · have := (hX k hx).1; omega
/-- wants[i] = x. -/
theorem KMem.storeW {g c : Nat} (h : KMem X vs w0 w (.slice (some ⟨g, 0, none⟩) n c) av fv n wants ab free) (hn : wants.length = n) (j : Nat) (x : Int) : KMem X vs w0 (w.setCell ⟨g, j, none⟩ (.int .i64 x)) (.slice (some ⟨g, 0, none⟩) n c) av fv n (wants.set j x) ab free := by
  have ho := h.wantsRow
  rw [hn] at ho
  obtain ⟨h1, h2⟩ := ho.stored j (.int .i64 x)
  rw [ints_set] at h1
  exact h.put1 (i := 0) (by omega) rfl (Kept.of_grown h2 (fun k hk _ => by injection hk with hk; rw [← hk]; rfl)) (l' := wants.set j x) (by rw [List.length_set, hn]; exact h1) (fun k hk => .inl hk) rfl rfl
/-- free = append(free, x). -/
theorem KMem.pushF (h : KMem X vs w0 w wv av fv n wants ab free) (x : Int) (hlen : free.length ≤ 1000000) :
    ∃ g c w4, (Builtin.append_ #[22, 22] 22 #[fv, .slice (some ⟨w.heap.size, 0, none⟩) 1 1]).run Try.prog (w.alloc (.cells #[.int .i64 x] 3)) = .ok (.slice (some ⟨g, 0, none⟩) (free.length + 1) c) w4 ∧
      KMem X vs w0 w4 wv av (.slice (some ⟨g, 0, none⟩) (free.length + 1) c) n wants ab (free ++ [x]) := by
  have hf := h.freeRow
  obtain ⟨v', w4, hrun, ho, hg, hat, hs⟩ := run_append_row (P := Try.prog) (ty := 22) Try.underlying22 info3 rfl (by decide) (hf.alloc (.cells #[.int .i64 x] 3)) (RowR.new w 1 1 #[.int .i64 x] 3 rfl) (ints_one [x]) (by omega) (by omega) (Nat.le_trans h.kept.size (by simp))
  obtain ⟨g, c, rfl⟩ := hs (by omega)
  refine ⟨g, c, w4, hrun, h.put1 (i := 1) (by omega) rfl (((Kept.refl _ w).alloc _).grown hg (fun k hk _ => hk)) (l' := free ++ [x]) ?_ (fun k hk => ?_) rfl rfl⟩
  · rw [ints_append, List.length_append]; exact ho
  · rcases hat with e | e
    · exact .inl (e ▸ hk)
    · rw [e, World.size_alloc] at hk
      injection hk with hk
      exact .inr (by omega)
/-- The top of free is taken. -/
theorem KMem.popF {x : Int} {tl : List Int} (h : KMem X vs w0 w wv av fv n wants ab (tl ++ [x])) :
    ∃ g c, fv = .slice (some ⟨g, 0, none⟩) (tl.length + 1) c ∧ tl.length + 1 ≤ c ∧ w.cell? ⟨g, tl.length, none⟩ = some (.int .i64 x) ∧ KMem X vs w0 w wv av (.slice (some ⟨g, 0, none⟩) tl.length c) n wants ab tl := by
  obtain ⟨g, c, rfl, h1, h2, h3, h4⟩ := stack_top h.freeRow
  exact ⟨g, c, rfl, h1, h2, h.put1 (i := 1) (by omega) rfl (Kept.refl _ w) (l' := tl) h3 (fun k hk => .inl hk) rfl rfl⟩
theorem KMem.form (h : KMem X vs w0 w wv av fv n wants ab free) {k : Nat} (hk : k < n) : ∃ g c, av = .slice (some ⟨g, 0, none⟩) n c := by
  obtain ⟨h1, h2, h3, hX⟩ := h
  obtain ⟨g, c, _, e, _⟩ := own_get h2 hk
  exact ⟨g, c, e⟩
theorem KMem.formW (h : KMem X vs w0 w wv av fv n wants ab free) (hn : wants.length = n) {x : Int} (hx : 0 ≤ x ∧ x < n) : ∃ g c, wv = .slice (some ⟨g, 0, none⟩) n c ∧ w.cell? ⟨g, x.toNat, none⟩ = some (.int .i64 (at0 wants x)) ∧ w.frozen? ⟨g, x.toNat, none⟩ = false ∧ ∀ i, X i → i ≠ g := by
  have h2 := h.wantsRow
  obtain ⟨g, c, u, e, hu, hc, hf, _⟩ := own_get h2 (i := x.toNat) (by omega)
  rw [ints_get, List.getElem?_eq_getElem (by omega)] at hu
  obtain ⟨_, _, _, hX⟩ := h
  refine ⟨g, c, by rw [← hn]; exact e, ?_, hf, fun i hi hig => (hX i hi).2 wv (by simp) (by rw [e, hig]; rfl)⟩
  rw [hc, ← hu]
  simp [at0, List.getD, List.getElem?_eq_getElem (show x.toNat < wants.length by omega)]
/-- The row at x. -/
theorem KMem.rowGet {g c : Nat} (h : KMem X vs w0 w wv (.slice (some ⟨g, 0, none⟩) n c) fv n wants ab free) (hn : ab.length = n) {x : Int} (hx : 0 ≤ x ∧ x < n) :
    ∃ v, vs[x.toNat]? = some v ∧ w.cell? ⟨g, x.toNat, none⟩ = some v ∧ w.frozen? ⟨g, x.toNat, none⟩ = false ∧ w.ownsRow w0.heap.size 3 1 v (rowAt ab x).length (ints (rowAt ab x)) := by
  obtain ⟨h1, h2, h3, hX⟩ := h
  obtain ⟨g', c', u, e, hu, hc, hf, _, _⟩ := own_get h2 (i := x.toNat) (by omega)
  injection e with e _ _
  injection e with e
  injection e with e
  subst e
  have hab : ab[x.toNat]? = some (rowAt ab x) := by
    unfold rowAt
    simp [List.getD, List.getElem?_eq_getElem (show x.toNat < ab.length by omega)]
  exact ⟨u, hu, hc, hf, h1.row (x.toNat + 2) u (rowAt ab x) (by simpa using hu) (by simpa using hab)⟩
set_option maxRecDepth 20000 in
/-- above[x] = append(above[x], y). -/
theorem KMem.pushA {g c : Nat} (h : KMem X vs w0 w wv (.slice (some ⟨g, 0, none⟩) n c) fv n wants ab free) (hn : ab.length = n) {x : Int} (hx : 0 ≤ x ∧ x < n) {v : Value} (hc : w.cell? ⟨g, x.toNat, none⟩ = some v) (y : Int) (hlen : (rowAt ab x).length ≤ 1000000) :
    ∃ g' c' w4, (Builtin.append_ #[22, 22] 22 #[v, .slice (some ⟨w.heap.size, 0, none⟩) 1 1]).run Try.prog (w.alloc (.cells #[.int .i64 y] 3)) = .ok (.slice (some ⟨g', 0, none⟩) ((rowAt ab x).length + 1) c') w4 ∧
      w4.cell? ⟨g, x.toNat, none⟩ = some v ∧ w4.frozen? ⟨g, x.toNat, none⟩ = false ∧
      KMem X (vs.set x.toNat (.slice (some ⟨g', 0, none⟩) ((rowAt ab x).length + 1) c')) w0 (w4.setCell ⟨g, x.toNat, none⟩ (.slice (some ⟨g', 0, none⟩) ((rowAt ab x).length + 1) c')) wv (.slice (some ⟨g, 0, none⟩) n c) fv n wants (ab.set x.toNat (rowAt ab x ++ [y])) free ∧ w.heap.size ≤ w4.heap.size ∧
      ∀ k, X k → (w4.setCell ⟨g, x.toNat, none⟩ (.slice (some ⟨g', 0, none⟩) ((rowAt ab x).length + 1) c')).heap[k]? = w.heap[k]? := by
  obtain ⟨v0, hvs, hc0, hf0, ho0⟩ := h.rowGet hn hx
  rw [hc] at hc0
  injection hc0 with hc0
  subst hc0
  have hkept := h.kept
  obtain ⟨h1, h2, h3, hX⟩ := h
  obtain ⟨v', w4, hrun, ho, hg, hat, hs⟩ := run_append_row (P := Try.prog) (ty := 22) Try.underlying22 info3 rfl (by decide) (ho0.alloc (.cells #[.int .i64 y] 3)) (RowR.new w 1 1 #[.int .i64 y] 3 rfl) (ints_one [y]) (by omega) (by omega) (Nat.le_trans hkept.size (by simp))
  obtain ⟨g', c', rfl⟩ := hs (by omega)
  have hk4 : Kept (fun k => v.ownBlock = some k) w w4 := ((Kept.refl _ w).alloc _).grown hg (fun k hk _ => hk)
  have hne : ∀ k, (Value.slice (some ⟨g, 0, none⟩) n c).ownBlock = some k → ¬ (v.ownBlock = some k) := fun k hk hk2 => own_ne h2 ho0 (by decide) k hk hk2
  have h24 := own_kept h2 hk4 hne
  have hgl : g < w.heap.size := (h2.lt g (by simp [Value.ownBlock])).2
  have hgn : ¬ (v.ownBlock = some g) := hne g (by simp [Value.ownBlock])
  have r4 := h1.put (i := x.toNat + 2) (v := v) (v' := .slice (some ⟨g', 0, none⟩) ((rowAt ab x).length + 1) c') (l' := rowAt ab x ++ [y]) (by simpa using hvs) hk4 (by rw [ints_append, List.length_append]; exact ho) (fun k hk => by
    rcases hat with e | e
    · exact .inl (e ▸ hk)
    · rw [e, World.size_alloc] at hk
      injection hk with hk
      exact .inr (by omega))
  simp only [List.set_cons_succ] at r4
  obtain ⟨s1, s2⟩ := h24.stored x.toNat (.slice (some ⟨g', 0, none⟩) ((rowAt ab x).length + 1) c')
  have kg : Kept (fun k => k = g) w4 (w4.setCell ⟨g, x.toNat, none⟩ (.slice (some ⟨g', 0, none⟩) ((rowAt ab x).length + 1) c')) := (Kept.refl (fun k => k = g) w4).setCell (p := ⟨g, x.toNat, none⟩) (.inl rfl) _
  have hvm : v ∈ vs := List.mem_of_getElem? hvs
  have xg : ∀ k, X k → k ≠ g := fun k hx e => (hX k hx).2 _ List.mem_cons_self (by rw [e]; rfl)
  refine ⟨g', c', w4, hrun, (hk4.cell (p := ⟨g, x.toNat, none⟩) hgl hgn).trans hc, (hk4.frozen (p := ⟨g, x.toNat, none⟩) hgl hgn).trans hf0, ⟨r4.other kg (fun i u k hu hk2 e => ?_), s1, ?_, fun k hx => ⟨?_, fun u hu hk => ?_⟩⟩, hk4.size, fun k hx => ?_⟩
  · subst e
    obtain ⟨l, _, hrow⟩ := r4.get hu
    exact own_ne hrow h24 (by decide) k hk2 (by simp [Value.ownBlock])
  · exact ((hkept.trans hk4 (fun k hlt hk3 => by have := (ho0.lt k hk3).1; omega)).setCell (p := ⟨g, x.toNat, none⟩) (.inr (h2.lt g (by simp [Value.ownBlock])).1) _)
  · have := (hX k hx).1
    have := hk4.size
    simp [World.setCell]; omega
  · simp only [List.mem_cons] at hu
    have old := (hX k hx).2
    rcases hu with rfl | rfl | rfl | hu
    · exact old _ (by simp) hk
    · exact old _ (by simp) hk
    · exact old _ (by simp) hk
    · rcases List.mem_or_eq_of_mem_set hu with hu | rfl
      · exact old _ (by simp [hu]) hk
      · rcases hat with e | e
        · exact old _ (by simp [hvm]) (e ▸ hk)
        · rw [e, World.size_alloc] at hk
          injection hk with hk
          have := (hX k hx).1
          omega
  · rw [kg.block k (Nat.lt_of_lt_of_le (hX k hx).1 hk4.size) (xg k hx)]
    exact hk4.block k (hX k hx).1 ((hX k hx).2 v (by simp [hvm]))
/-- Blocks laid since, and the oldest, are none of theirs. -/
theorem KMem.far (h : KMem No vs w0 w wv av fv n wants ab free) (hk : Kept No w w') : KMem (fun k => (k < w0.heap.size ∨ w.heap.size ≤ k) ∧ k < w'.heap.size) vs w0 w' wv av fv n wants ab free := by
  obtain ⟨h1, h2, h3, _⟩ := h
  refine ⟨h1.keptNo hk, own_kept h2 hk (fun _ _ hn => hn), h3.thenNo hk, fun k hx => ⟨hx.2, fun u hu hb => ?_⟩⟩
  rcases List.mem_cons.1 hu with rfl | hu
  · have := h2.lt k hb
    omega
  · obtain ⟨i, hi⟩ := List.getElem?_of_mem hu
    obtain ⟨l, _, hr⟩ := h1.get hi
    have := hr.lt k hb
    omega
theorem KMem.noX (h : KMem X vs w0 w wv av fv n wants ab free) : KMem No vs w0 w wv av fv n wants ab free := by
  obtain ⟨h1, h2, h3, _⟩ := h
  exact ⟨h1, h2, h3, fun _ hx => hx.elim⟩
theorem KMem.begin (ho1 : w.ownsRow w0.heap.size 3 1 wv n (ints (List.replicate n 0))) (ho2 : w.ownsRow w0.heap.size 22 1 av n (List.replicate n (.slice none 0 0))) (hk : Kept No w0 w) :
    KMem No (List.replicate n (.slice none 0 0)) w0 w wv av (.slice none 0 0) n (List.replicate n 0) (List.replicate n []) [] := by
  have nilb : ∀ (j : Nat) (u : Value), (Value.slice none 0 0 :: List.replicate n (.slice none 0 0))[j]? = some u → u = .slice none 0 0 := by
    intro j u hj
    have := List.mem_of_getElem? hj
    rcases List.mem_cons.1 this with e | e
    · exact e
    · exact (List.mem_replicate.1 e).2
  refine ⟨⟨by simp, fun i v l hv hl => ?_, fun i j a b k ha hb hne h1 h2 => ?_⟩, ho2, hk, fun _ hx => hx.elim⟩
  · cases i with
    | zero =>
      simp at hv hl
      subst hv; subst hl
      simpa using ho1
    | succ i =>
      rw [List.getElem?_cons_succ] at hv hl
      have e1 := nilb i v hv
      have e2 : l = [] := by
        rcases List.mem_cons.1 (List.mem_of_getElem? hl) with e | e
        · exact e
        · exact (List.mem_replicate.1 e).2
      subst e1; subst e2
      exact World.ownsRow_nil _ _ _ _
  · cases i with
    | zero =>
      cases j with
      | zero => exact absurd rfl hne
      | succ j =>
        rw [List.getElem?_cons_succ] at hb
        rw [nilb j b hb] at h2
        simp [Value.ownBlock] at h2
    | succ i =>
      rw [List.getElem?_cons_succ] at ha
      rw [nilb i a ha] at h1
      simp [Value.ownBlock] at h1
end
/-- Few numbers, each few times: a short list. -/
theorem short_of_counts (c : Nat) : ∀ (K : Nat) (l : List Int), (∀ i ∈ l, 0 ≤ i ∧ i < K) → (∀ i, l.count i ≤ c) → l.length ≤ c * K := by
  intro K
  induction K with
  | zero =>
    intro l hin _
    cases l with
    | nil => simp
    | cons a l => have := hin a (by simp); omega
  | succ K ih =>
    intro l hin hc
    have h1 := ih (l.filter fun i => !(i == (K : Int))) (fun i hi => by
      obtain ⟨h2, h3⟩ := List.mem_filter.1 hi
      have := hin i h2
      have : i ≠ K := by simpa using h3
      omega) (fun i => Nat.le_trans (List.Sublist.count_le _ List.filter_sublist) (hc i))
    have h2 : l.length = l.count (K : Int) + (l.filter fun i => !(i == (K : Int))).length := by
      rw [List.count_eq_countP, List.countP_eq_length_filter]
      clear h1 hin hc ih
      induction l with
      | nil => rfl
      | cons a l ih2 =>
        by_cases h : a = (K : Int)
        · simp [h]; omega
        · have : (a == (K : Int)) = false := by simpa using h
          simp [this]; omega
    have h3 := hc (K : Int)
    rw [Nat.mul_succ]
    omega
end Go.Proofs.Ytooalgnppnmeaaa
