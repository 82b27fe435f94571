/- slide.read: what a heap has, and what each node is. -/
import Derived.Test.YtooalgnppnmeaaaRanged
import Derived.Test.YtooalgnppnmeaaaH3
import Derived.Laws.Rows
import Derived.RangeFuncCalls
namespace Go.Proofs.Ytooalgnppnmeaaa
open Go.RowKit Go.Shelf
attribute [local go_sem] Oper.semAt_some

/-- is tells which application each node is. -/
structure IsL (ns : List Nd) (is : List Int) : Prop where
  len : is.length = ns.length
  at_ : ∀ (i : Nat) (b : Int), is[i]? = some b → Is ns i b
/-- A graph in memory. -/
structure GraphO (w : World) (F : Nat → Prop) (nv iv : Value) (avs : List Value) (ns : List Nd) (is : List Int) : Prop where
  nodes : NodesA w F nv avs ns
  is : w.ownsRow 0 3 1 iv is.length (ints is)
  isF : ∀ k, iv.ownBlock = some k → F k
  sep : ∀ a ∈ avs, ∀ k, a.ownBlock = some k → iv.ownBlock ≠ some k

/-- Between two rounds of 'read'. -/
structure RdG (w : World) (N hb : Nat) (xs : List Yd) (js : List Int) (W : World) : Prop where
  size : w.heap.size = N
  le : js.length ≤ xs.length
  avm : ∀ y ∈ xs, ∀ k, y.av.ownBlock = some k → k < y.m
  out : ∃ v u, W.heap[N + 2]? = some (.cells #[v, u] 101 (0, 0)) ∧
    (W.ownsRow 0 32 5 v xs.length (flat (xs.map Yd.av) (xs.map Yd.nd)) ∧ (∀ k, v.ownBlock = some k → N + 4 ≤ k ∧ ∀ y ∈ xs, y.m ≤ k) ∧ (xs = [] → v = .slice none 0 0)) ∧
    (W.ownsRow 0 3 1 u js.length (ints js) ∧ (∀ k, u.ownBlock = some k → N + 4 ≤ k ∧ ∀ y ∈ xs, y.m ≤ k) ∧ (js = [] → u = .slice none 0 0))
  r1 : W.heap[N + 1]? = some (.cells #[.slice none 0 0, .slice none 0 0] 101 (0, 0))
  rb : W.heap[N]? = some (.cells #[.pointer (some ⟨hb, 0, none⟩)] 25 (0, 0))
  kept : Kept No w W
theorem RdG.own (w : World) (N hb : Nat) (f : List Yd → List Int) : OwnFrom (N + 4) (fun xs W => RdG w N hb xs (f xs) W) := by
  intro pre A C row h hg hr
  have hr2 := fun r e => (hr r e).2
  obtain ⟨v, u, h1, ⟨h2, h3, h4⟩, h5, h6, h7⟩ := h.out
  exact ⟨h.size, h.le, h.avm, ⟨v, u, blk_turn h1 rfl hg hr2, ⟨own_turn h2 hg hr2, h3, h4⟩, own_turn h5 hg hr2, h6, h7⟩, blk_turn h.r1 rfl hg hr2, blk_turn h.rb rfl hg hr2, h.kept.grown hg (fun k hk hlt => by have := (hr k hk).1; have := h.size; omega)⟩
theorem slice_ne {g c n n' g' c' : Nat} (h : Value.slice (some ⟨g, 0, none⟩) n c = .slice (some ⟨g', 0, none⟩) n' c') : g = g' := by
  injection h with h _ _
  injection h with h
  injection h
/-- An owned row's block is not one of another type. -/
theorem own_off {w : World} {base : Nat} {e t : TypeId} {s n g c : Nat} {xs : List Value} {cs : Array Value} {l : Nat} {fr : Nat × Nat} (h : w.ownsRow base e s (.slice (some ⟨g, 0, none⟩) n c) n xs) (hl : w.heap[l]? = some (.cells cs t fr)) (hne : e ≠ t) : g ≠ l := by
  rintro rfl
  exact own_ne_blk h hl hne rfl
/-- One more node. -/
theorem RdG.push1 {w W : World} {N hb : Nat} {xs : List Yd} {js : List Int} (h : RdG w N hb xs js W) {x : Yd} (hav : x.av.oneCell' = true) (havm : ∀ k, x.av.ownBlock = some k → k < x.m) (hm : x.m ≤ W.heap.size) (hpm : ∀ y ∈ xs, y.m = x.m) (hlen : xs.length ≤ 4000) {v u : Value} (hv : W.heap[N + 2]? = some (.cells #[v, u] 101 (0, 0))) :
    ∃ g c w4, (Builtin.append_ #[39, 39] 39 #[v, .slice (some ⟨W.heap.size, 0, none⟩) 1 1]).run Try.prog (W.alloc (.cells (ndCells x.av x.nd).toArray 32)) = .ok (.slice (some ⟨g, 0, none⟩) (xs.length + 1) c) w4 ∧
      w4.heap[N + 2]? = some (.cells #[v, u] 101 (0, 0)) ∧ (w4.setCell ⟨N + 2, 0, none⟩ (.slice (some ⟨g, 0, none⟩) (xs.length + 1) c)).heap[N + 2]? = some (.cells #[.slice (some ⟨g, 0, none⟩) (xs.length + 1) c, u] 101 (0, 0)) ∧
      RdG w N hb (xs ++ [x]) js (w4.setCell ⟨N + 2, 0, none⟩ (.slice (some ⟨g, 0, none⟩) (xs.length + 1) c)) ∧
      Kept (Outer (N + 4) x.m) W (w4.setCell ⟨N + 2, 0, none⟩ (.slice (some ⟨g, 0, none⟩) (xs.length + 1) c)) := by
  obtain ⟨v0, u0, h1, ⟨h2, h3, h4⟩, h5, h6, h7⟩ := h.out
  have he : v = v0 ∧ u = u0 := by
    rw [hv] at h1
    simpa using h1
  obtain ⟨rfl, rfl⟩ := he
  have hn1 : RowR (W.alloc (.cells (ndCells x.av x.nd).toArray 32)) 5 (fun k => k = W.heap.size) (.slice (some ⟨W.heap.size, 0, none⟩) 1 1) 1 (ndCells x.av x.nd) := by
    have := RowR.new W 5 1 (ndCells x.av x.nd).toArray 32 (by simp [ndCells])
    simpa using this
  obtain ⟨v', w4, hrun, ho, hg, hat, hs⟩ := run_append_row (P := Try.prog) (ty := 39) Try.underlying39 infoN rfl (by decide) (h2.alloc (.cells (ndCells x.av x.nd).toArray 32)) hn1 (ndCells_one x.av x.nd hav) (by omega) (by omega) (Nat.zero_le _)
  obtain ⟨g, c, rfl⟩ := hs (by omega)
  have hlt := (Array.getElem?_eq_some_iff.1 hv).1
  have k4 : Kept (fun k => v.ownBlock = some k) W w4 := ((Kept.refl _ W).alloc _).grown hg (fun k hk _ => hk)
  have nb : ∀ k, k < N + 4 → ¬ (v.ownBlock = some k) := fun k hk e => by have := (h3 k e).1; omega
  have b4 := k4.blk hv (nb _ (by omega))
  have gN : g ≠ N + 2 := own_off ho b4 (by decide)
  have ks : Kept (fun k => k = N + 2) w4 (w4.setCell ⟨N + 2, 0, none⟩ (.slice (some ⟨g, 0, none⟩) (xs.length + 1) c)) := (Kept.refl (fun k => k = N + 2) w4).setCell (p := ⟨N + 2, 0, none⟩) (.inl rfl) _
  have hz4 := k4.size
  have b5 : (w4.setCell ⟨N + 2, 0, none⟩ (.slice (some ⟨g, 0, none⟩) (xs.length + 1) c)).heap[N + 2]? = some (.cells #[.slice (some ⟨g, 0, none⟩) (xs.length + 1) c, u] 101 (0, 0)) := by simpa using blk_set b4 0 (.slice (some ⟨g, 0, none⟩) (xs.length + 1) c)
  have u4 := own_kept h5 k4 (fun k hk e => own_ne h2 h5 (by decide) k e hk)
  have hjm : ∀ k, u.ownBlock = some k → x.m ≤ k := fun k hk => by
    obtain ⟨_, e2⟩ := h6 k hk
    cases xs with
    | nil => have : js = [] := by have := h.le; simp at this; exact this
             rw [h7 this] at hk; simp [Value.ownBlock] at hk
    | cons z xs => have := e2 z (by simp); have := hpm z (by simp); omega
  refine ⟨g, c, w4, hrun, b4, b5, ⟨h.size, by have := h.le; simp; omega, fun y hy => (by
    rcases List.mem_append.1 hy with hy | hy
    · exact h.avm y hy
    · have : y = x := by simpa using hy
      subst this; exact havm), ⟨_, _, b5, ⟨?_, fun k hk => ?_, fun e => by simp at e⟩, own_kept u4 ks (fun k hk e => by have := (h6 k hk).1; omega), fun k hk => ⟨(h6 k hk).1, fun y hy => ?_⟩, h7⟩, ks.blk (k4.blk h.r1 (nb _ (by omega))) (by omega), ks.blk (k4.blk h.rb (nb _ (by omega))) (by omega), ?_⟩, ?_⟩
  · have := own_kept ho ks (fun k hk e => by simp [Value.ownBlock] at hk; omega)
    rw [List.map_append, List.map_append, flat_append _ _ _ _ (by simp)]
    simpa [flat_cons, flat_nil] using this
  · have hk' : g = k := by simpa [Value.ownBlock] using hk
    subst hk'
    rcases hat with e | e
    · obtain ⟨e1, e2⟩ := h3 g e.symm
      refine ⟨e1, fun y hy => ?_⟩
      rcases List.mem_append.1 hy with hy | hy
      · exact e2 y hy
      · have : y = x := by simpa using hy
        subst this
        cases xs with
        | nil => rw [h4 rfl] at e; simp [Value.ownBlock] at e
        | cons z xs => have := e2 z (by simp); have := hpm z (by simp); omega
    · have e : g = W.heap.size + 1 := by simpa [Value.ownBlock] using e
      refine ⟨by omega, fun y hy => ?_⟩
      rcases List.mem_append.1 hy with hy | hy
      · have := hpm y hy; omega
      · have : y = x := by simpa using hy
        subst this; omega
  · rcases List.mem_append.1 hy with hy | hy
    · exact (h6 k hk).2 y hy
    · have : y = x := by simpa using hy
      subst this; exact hjm k hk
  · exact (h.kept.trans k4 (fun k hlt hk => by have := (h3 k hk).1; have := h.size; omega)).setCell (p := ⟨N + 2, 0, none⟩) (.inr (by have := h.size; dsimp only; omega)) _
  · refine ((k4.mono (fun k _ hk => ?_)).setCell (p := ⟨N + 2, 0, none⟩) (.inl (by unfold Outer; dsimp only; omega)) _)
    obtain ⟨e1, e2⟩ := h3 k hk
    unfold Outer
    cases xs with
    | nil => rw [h4 rfl] at hk; simp [Value.ownBlock] at hk
    | cons z xs => have := e2 z (by simp); have := hpm z (by simp); omega
/-- And what it is. -/
theorem RdG.push2 {w W : World} {N hb : Nat} {xs : List Yd} {js : List Int} (h : RdG w N hb xs js W) {x : Yd} (hx : x ∈ xs) (hle : js.length < xs.length) (hm : x.m ≤ W.heap.size) (hpm : ∀ y ∈ xs, y.m = x.m) (hlen : xs.length ≤ 4001) (j : Int) {v u : Value} (hv : W.heap[N + 2]? = some (.cells #[v, u] 101 (0, 0))) :
    ∃ g c w4, (Builtin.append_ #[22, 22] 22 #[u, .slice (some ⟨W.heap.size, 0, none⟩) 1 1]).run Try.prog (W.alloc (.cells #[.int .i64 j] 3)) = .ok (.slice (some ⟨g, 0, none⟩) (js.length + 1) c) w4 ∧
      w4.heap[N + 2]? = some (.cells #[v, u] 101 (0, 0)) ∧
      RdG w N hb xs (js ++ [j]) (w4.setCell ⟨N + 2, 1, none⟩ (.slice (some ⟨g, 0, none⟩) (js.length + 1) c)) ∧
      Kept (Outer (N + 4) x.m) W (w4.setCell ⟨N + 2, 1, none⟩ (.slice (some ⟨g, 0, none⟩) (js.length + 1) c)) := by
  obtain ⟨v0, u0, h1, ⟨h2, h3, h4⟩, h5, h6, h7⟩ := h.out
  have he : v = v0 ∧ u = u0 := by
    rw [hv] at h1
    simpa using h1
  obtain ⟨rfl, rfl⟩ := he
  obtain ⟨v', w4, hrun, ho, hg, hat, hs⟩ := run_append_row (P := Try.prog) (ty := 22) Try.underlying22 info3 rfl (by decide) (h5.alloc (.cells #[.int .i64 j] 3)) (RowR.new W 1 1 #[.int .i64 j] 3 rfl) (ints_one [j]) (by omega) (by omega) (Nat.zero_le _)
  obtain ⟨g, c, rfl⟩ := hs (by omega)
  have hlt := (Array.getElem?_eq_some_iff.1 hv).1
  have k4 : Kept (fun k => u.ownBlock = some k) W w4 := ((Kept.refl _ W).alloc _).grown hg (fun k hk _ => hk)
  have nb : ∀ k, k < N + 4 → ¬ (u.ownBlock = some k) := fun k hk e => by have := (h6 k e).1; omega
  have b4 := k4.blk hv (nb _ (by omega))
  have gN : g ≠ N + 2 := own_off ho b4 (by decide)
  have ks : Kept (fun k => k = N + 2) w4 (w4.setCell ⟨N + 2, 1, none⟩ (.slice (some ⟨g, 0, none⟩) (js.length + 1) c)) := (Kept.refl (fun k => k = N + 2) w4).setCell (p := ⟨N + 2, 1, none⟩) (.inl rfl) _
  have hz4 := k4.size
  have b5 : (w4.setCell ⟨N + 2, 1, none⟩ (.slice (some ⟨g, 0, none⟩) (js.length + 1) c)).heap[N + 2]? = some (.cells #[v, .slice (some ⟨g, 0, none⟩) (js.length + 1) c] 101 (0, 0)) := by simpa using blk_set b4 1 (.slice (some ⟨g, 0, none⟩) (js.length + 1) c)
  have v4 := own_kept h2 k4 (fun k hk e => own_ne h2 h5 (by decide) k hk e)
  have hjm : ∀ k, u.ownBlock = some k → x.m ≤ k := fun k hk => (h6 k hk).2 x hx
  refine ⟨g, c, w4, hrun, b4, ⟨h.size, by simp; omega, h.avm, ⟨_, _, b5, ⟨own_kept v4 ks (fun k hk e => by have := (h3 k hk).1; omega), h3, h4⟩, ?_, fun k hk => ?_, fun e => by simp at e⟩, ks.blk (k4.blk h.r1 (nb _ (by omega))) (by omega), ks.blk (k4.blk h.rb (nb _ (by omega))) (by omega), ?_⟩, ?_⟩
  · have := own_kept ho ks (fun k hk e => by simp [Value.ownBlock] at hk; omega)
    rw [ints_append]
    simpa [ints] using this
  · have hk' : g = k := by simpa [Value.ownBlock] using hk
    subst hk'
    rcases hat with e | e
    · exact h6 g e.symm
    · have e : g = W.heap.size + 1 := by simpa [Value.ownBlock] using e
      exact ⟨by omega, fun y hy => by have := hpm y hy; omega⟩
  · exact (h.kept.trans k4 (fun k hlt hk => by have := (h6 k hk).1; have := h.size; omega)).setCell (p := ⟨N + 2, 1, none⟩) (.inr (by have := h.size; dsimp only; omega)) _
  · refine ((k4.mono (fun k _ hk => ?_)).setCell (p := ⟨N + 2, 1, none⟩) (.inl (by unfold Outer; dsimp only; omega)) _)
    have := hjm k hk
    unfold Outer
    omega

set_option maxRecDepth 100000 in
set_option maxHeartbeats 4000000 in
theorem read_any {F : Nat → Prop} {hb : Nat} {room : Int} {ns : List Nd} {is : List Int} {w : World} (h : HeapO w F hb room ns) (hs : Sane ns) (hA : Acyc ns) (hlen : ns.length ≤ 4000) (hi : IsL ns is) :
    Calls Try.prog 72 #[.pointer (some ⟨hb, 0, none⟩)] w (fun e w' => ∃ nv iv avs, e = .returned (.agg #[nv, iv]) ∧ GraphO w' (Fr w.heap.size) nv iv avs ns is ∧ Kept No w w') := by
  have H := Lib.hid h
  have HSm := Lib.hid hs.few
  have HA := Lib.hid hA
  have HI := Lib.hid hi
  clear h hs hA hi
  refine (callsIn_wide (n := 9)).1 ?_
  refine callsIn_of_wp_marks Try.func72 rfl trivial ?_ rfl
  simp only [Try.ntmps72, List.size_toArray, List.length_cons, List.length_nil, Nat.reduceAdd, Nat.reduceSub, Array.replicate_succ, Array.replicate_zero, List.push_toArray, List.append_toArray, List.nil_append, List.cons_append]
  gi_wp2_with fail
  refine ⟨trivial, (callsIn_wide.2 (all_any hb _)).mono ?_⟩
  rintro e wA ⟨rfl, hwA⟩
  obtain ⟨N, hN⟩ : ∃ N, w.heap.size = N := ⟨_, rfl⟩
  have kA : Kept No w wA := hwA ▸ ((((Kept.refl No w).alloc _).alloc _).alloc _).alloc _
  have zA : wA.heap.size = N + 4 := by rw [← hwA]; simp [hN]
  have g2 : wA.heap[N]? = some (.cells #[.pointer (some ⟨hb, 0, none⟩)] 25 (0, 0)) := by
    rw [← hwA, ← hN]; exact blk_alloc (blk_alloc (blk_alloc (heap_alloc_new w _) _) _) _
  have g3 : wA.heap[N + 1]? = some (.cells #[.slice none 0 0, .slice none 0 0] 101 (0, 0)) := by
    rw [← hwA, ← hN]; exact blk_alloc (blk_alloc (by simpa using heap_alloc_new (w.alloc _) _) _) _
  have g4 : wA.heap[N + 2]? = some (.cells #[.slice none 0 0, .slice none 0 0] 101 (0, 0)) := by
    rw [← hwA, ← hN]; exact blk_alloc (by simpa using heap_alloc_new ((w.alloc _).alloc _) _) _
  have gb : wA.cell? ⟨N + 3, 0, none⟩ = some (.pointer (some ⟨hb, 0, none⟩)) := by
    rw [cell_of_row _ _ _ _ _ _ (show wA.heap[N + 3]? = some (.cells #[.pointer (some ⟨hb, 0, none⟩)] 25 (0, 0)) by rw [← hwA, ← hN]; simpa using heap_alloc_new (((w.alloc _).alloc _).alloc _) _)]
    rfl
  have I0 : RdG w N hb [] [] wA := ⟨hN, Nat.le_refl _, by simp, ⟨_, _, g4, ⟨World.ownsRow_nil _ _ _ _, fun k hk => by simp [Value.ownBlock] at hk, fun _ => rfl⟩, World.ownsRow_nil _ _ _ _, fun k hk => by simp [Value.ownBlock] at hk, fun _ => rfl⟩, g3, g2, kA⟩
  have hG := all_gives (w := wA) 8 (by omega) gb (by omega) (H.out.keptNo kA) hlen HSm.out
  simp only [World.size_alloc, hN] at *
  clear hwA g2 g3 g4 gb kA
  gi_wp2
  simp only [Nat.add_assoc, Nat.reduceAdd]
  refine range_law rfl (by omega) (gf := 56) (lb := #[.pointer (some ⟨N + 3, 0, none⟩)]) rfl trivial (enters_of Try.func56 (by kernel_rfl) rfl) hG (fun _ => rfl) (fun xs W => RdG w N hb xs (is.take xs.length) W) (fun _ _ _ => False)
    (fun pre x a' W => RdG w N hb pre (is.take pre.length) W ∧ YdAt wA.heap.size ns pre x W ∧ ∃ bx, NdBox bx x W ∧ a' = { tmps := #[.pointer (some ⟨hb, 0, none⟩), .pointer (some ⟨N, 0, none⟩), .pointer (some ⟨N + 1, 0, none⟩), .pointer (some ⟨N + 2, 0, none⟩), .int .i64 (x.i : Int), .pointer (some ⟨bx, 0, none⟩), undef, undef, .pointer (some ⟨hb, 0, none⟩), .func (.func 56) #[] #[.pointer (some ⟨N + 3, 0, none⟩)], .int .i64 (x.i : Int), ndVal x.av x.nd, undef, undef, undef, undef, undef, undef, undef, undef, undef, undef, undef, undef, undef, undef, undef, undef, undef, undef, undef], defers := [] })
    (by rw [zA]; exact RdG.own w N hb (fun xs => is.take xs.length)) (fun _ _ _ _ _ h _ _ => h) (AllS.own _ _ _)
    (fun pre x a' _ A C row h hg hr => ⟨(by rw [zA] at hr; exact RdG.own w N hb (fun xs => is.take xs.length) pre A C row h.1 hg hr), YdAt.own _ _ _ _ _ () A C row h.2.1 hg hr, by
      obtain ⟨bx, h1, h2⟩ := h.2.2
      exact ⟨bx, NdBox.own _ _ _ () A C row h1 hg hr, h2⟩⟩) I0 ?assign ?body ?done ?stop
  case assign =>
    rintro l pre ⟨m, i, av, nd⟩ W K hI hX hm hm2 hK
    dsimp only [ydArgs, ndVal] at hX hm hm2 ⊢
    have hx3 : W.ownsRow _ _ 1 av nd.args.length (ints nd.args) := hX.2.2.1
    obtain ⟨Av, cv, rfl⟩ := (own_reads hx3 (F := fun _ => True) (fun _ _ => trivial)).slice
    clear hx3
    have hK2 := Lib.hid (hK { tmps := #[.pointer (some ⟨hb, 0, none⟩), .pointer (some ⟨N, 0, none⟩), .pointer (some ⟨N + 1, 0, none⟩), .pointer (some ⟨N + 2, 0, none⟩), .int .i64 (i : Int), .pointer (some ⟨W.heap.size, 0, none⟩), undef, undef, .pointer (some ⟨hb, 0, none⟩), .func (.func 56) #[] #[.pointer (some ⟨N + 3, 0, none⟩)], .int .i64 (i : Int), .agg #[.int .i64 nd.sym, .slice Av nd.args.length cv, .int .i64 nd.mark, .bool nd.pts, .int .i64 nd.to], undef, undef, undef, undef, undef, undef, undef, undef, undef, undef, undef, undef, undef, undef, undef, undef, undef, undef, undef], defers := [] }
      (W.alloc (.cells #[.int .i64 nd.sym, .slice Av nd.args.length cv, .int .i64 nd.mark, .bool nd.pts, .int .i64 nd.to] 32)) ((Kept.refl _ W).alloc _)
      ⟨RdG.own w N hb (fun xs => is.take xs.length) pre W _ none hI ((Kept.refl No W).alloc _).grownNo (fun r e => by cases e), YdAt.own _ 0 _ _ _ () W _ none hX ((Kept.refl No W).alloc _).grownNo (fun r e => by cases e), _, heap_alloc_new W _, rfl⟩)
    clear hK hI hX
    gi_wp2
    exact hK2.out
  case body =>
    rintro l pre ⟨m, i, av, nd⟩ a' W hl hrec ⟨hI, hX, bx, hbx, rfl⟩ hm hm2 hlen'
    dsimp only [ndVal] at hX hbx hm hm2 ⊢
    have hx3 : W.ownsRow _ _ 1 av nd.args.length (ints nd.args) := hX.2.2.1
    obtain ⟨Av, cv, rfl⟩ := (own_reads hx3 (F := fun _ => True) (fun _ _ => trivial)).slice
    clear hx3
    have hi : i = pre.length := hX.1
    subst hi
    obtain ⟨b, hb2⟩ : ∃ b, is[pre.length]? = some b := ⟨_, List.getElem?_eq_getElem (by rw [HI.out.len]; exact hlen')⟩
    have hisb := HI.out.at_ _ _ hb2
    have htk : is.take (pre.length + 1) = is.take pre.length ++ [b] := by rw [List.take_add_one, hb2]; rfl
    have hjl : (is.take pre.length).length = pre.length := by rw [List.length_take, HI.out.len]; omega
    rw [zA] at hm2
    have hpm := hX.2.2.2.2
    obtain ⟨v, u, h1, _⟩ := hI.out
    obtain ⟨g, c, w4, happ1, hb4, hb5, hI4, hk4⟩ := hI.push1 (x := ⟨m, pre.length, .slice Av nd.args.length cv, nd⟩) rfl hX.2.2.2.1 hm hpm (by omega) h1
    obtain ⟨g2, c2, w5, happ2, hb6, hI5, hk5⟩ := hI4.push2 (x := ⟨m, pre.length, .slice Av nd.args.length cv, nd⟩) (by simp) (by rw [hjl]; simp) (Nat.le_trans hm hk4.size) (fun y hy => by
      rcases List.mem_append.1 hy with hy | hy
      · exact hpm y hy
      · have : y = (⟨m, pre.length, .slice Av nd.args.length cv, nd⟩ : Yd) := by simpa using hy
        rw [this]) (by simp; omega) b hb5
    dsimp only [ndCells] at happ1 hbx
    rw [zA]
    rw [hjl] at happ2 hI5 hk5
    simp only [World.size_setCell] at happ2
    have HRes := Lib.hid (resolve_yes (H.out.keptNo hI.kept) HA.out (pre.length : Int) b hisb)
    have HI5 : Hid (RdG w N hb (pre ++ [(⟨m, pre.length, .slice Av nd.args.length cv, nd⟩ : Yd)]) (is.take (pre ++ [(⟨m, pre.length, .slice Av nd.args.length cv, nd⟩ : Yd)]).length) (w5.setCell ⟨N + 2, 1, none⟩ (.slice (some ⟨g2, 0, none⟩) (pre.length + 1) c2))) := by
      show RdG _ _ _ _ _ _
      rw [List.length_append, List.length_singleton, htk]
      exact hI5
    have HK5 := Lib.hid (hk4.trans hk5 (fun _ _ h => h))
    obtain ⟨⟨p0, p1, p2, p3, p4⟩, q0, q1, q2, q3, q4⟩ := cells5 hbx
    have c0 : W.cell? ⟨N, 0, none⟩ = some (.pointer (some ⟨hb, 0, none⟩)) := by rw [cell_of_row _ _ _ _ _ _ hI.rb]; rfl
    have c1 : W.cell? ⟨N + 2, 0, none⟩ = some v := by rw [cell_of_row _ _ _ _ _ _ h1]; rfl
    have c4 : w4.cell? ⟨N + 2, 0, none⟩ = some v := by rw [cell_of_row _ _ _ _ _ _ hb4]; rfl
    have f4 : w4.frozen? ⟨N + 2, 0, none⟩ = false := frozen_of_row _ _ _ _ _ hb4
    have c5 : (w4.setCell ⟨N + 2, 0, none⟩ (.slice (some ⟨g, 0, none⟩) (pre.length + 1) c)).cell? ⟨N + 2, 1, none⟩ = some u := by rw [cell_of_row _ _ _ _ _ _ hb5]; rfl
    have c6 : w5.cell? ⟨N + 2, 1, none⟩ = some u := by rw [cell_of_row _ _ _ _ _ _ hb6]; rfl
    have f6 : w5.frozen? ⟨N + 2, 1, none⟩ = false := frozen_of_row _ _ _ _ _ hb6
    clear hI hX h1 hI4 hI5 hk4 hk5 hbx hb4 hb5 hb6 hb2 hisb htk hjl hpm
    gi_wp2_with fail
    refine ⟨trivial, CallsIn.inRound l ((callsIn_wide.2 HRes.out).mono ?_)⟩
    rintro e W2 ⟨rfl, rfl⟩
    gi_wp2_with (first | (gi_at_builtin; refine wpListIn_append_run rfl (.tmp 19) (.tmp 21) 39 rfl rfl rfl happ1 ?_; clear happ1) | (gi_at_builtin; refine wpListIn_append_run rfl (.tmp 25) (.tmp 27) 22 rfl rfl rfl happ2 ?_; clear happ2))
    exact ⟨HK5.out, HI5.out⟩
  case done =>
    rintro D xs W hD hS hI hdef
    rw [zA] at hD hS
    obtain ⟨v, u, h1, ⟨h2, h3, _⟩, h5, h6, _⟩ := hI.out
    have hnd := hS.1
    have hxl : xs.length = ns.length := by rw [← hnd, List.length_map]
    have htk : is.take xs.length = is := by rw [hxl, ← HI.out.len, List.take_length]
    rw [hnd, hxl] at h2
    rw [htk] at h5
    obtain ⟨Ao, co, rfl⟩ := (own_reads h2 (F := fun _ => True) (fun _ _ => trivial)).slice
    obtain ⟨Au, cu, rfl⟩ := (own_reads h5 (F := fun _ => True) (fun _ _ => trivial)).slice
    have b1 := blk_set (by simpa using blk_set hI.r1 0 (.slice Ao ns.length co)) 1 (.slice Au is.length cu)
    have bD := blk_far (p := ⟨N + 1, 1, none⟩) (blk_far (p := ⟨N + 1, 0, none⟩) hdef (by dsimp only; omega) (.slice Ao ns.length co)) (by dsimp only; omega) (.slice Au is.length cu)
    have kU : Kept (fun k => k < N + 4 ∧ N ≤ k) W ((W.setCell ⟨N + 1, 0, none⟩ (.slice Ao ns.length co)).setCell ⟨N + 1, 1, none⟩ (.slice Au is.length cu)) :=
      ((Kept.refl _ W).setCell (p := ⟨N + 1, 0, none⟩) (.inl (by dsimp only; omega)) _).setCell (p := ⟨N + 1, 1, none⟩) (.inl (by dsimp only; omega)) _
    have c0 : W.cell? ⟨N + 2, 0, none⟩ = some (.slice Ao ns.length co) := by rw [cell_of_row _ _ _ _ _ _ h1]; rfl
    have c1 : W.cell? ⟨N + 2, 1, none⟩ = some (.slice Au is.length cu) := by rw [cell_of_row _ _ _ _ _ _ h1]; rfl
    have d0 : W.cell? ⟨N + 1, 0, none⟩ = some (.slice none 0 0) := by rw [cell_of_row _ _ _ _ _ _ hI.r1]; rfl
    have d1 : W.cell? ⟨N + 1, 1, none⟩ = some (.slice none 0 0) := by rw [cell_of_row _ _ _ _ _ _ hI.r1]; rfl
    have f0 : W.frozen? ⟨N + 1, 0, none⟩ = false := frozen_of_row _ _ _ _ _ hI.r1
    have f1 : W.frozen? ⟨N + 1, 1, none⟩ = false := frozen_of_row _ _ _ _ _ hI.r1
    have HD := Lib.hid hdef
    have HI2 := Lib.hid hI
    have HS := Lib.hid hS
    have H2 := Lib.hid h2
    have H3 := Lib.hid h3
    have H5 := Lib.hid h5
    have H6 := Lib.hid h6
    have B1 := Lib.hid b1
    have BD := Lib.hid bD
    have KU := Lib.hid kU
    clear h1 hdef hI hS h2 h3 h5 h6 b1 bD kU hnd hxl htk
    gi_wp2
    have hsz := HI2.out.size
    have turn : ∀ r, some D = some r → ∃ o : Obj, ((W.setCell ⟨N + 1, 0, none⟩ (.slice Ao ns.length co)).setCell ⟨N + 1, 1, none⟩ (.slice Au is.length cu)).heap[r]? = some o ∧ o.isCells = false := fun r e => by
      injection e with e
      subst e
      exact ⟨_, BD.out, rfl⟩
    have hg := grownBy_putObj' ((W.setCell ⟨N + 1, 0, none⟩ (.slice Ao ns.length co)).setCell ⟨N + 1, 1, none⟩ (.slice Au is.length cu)) D (.deferred none)
    have z1 := blk_turn B1.out rfl hg turn
    refine ⟨by simp, .inl ⟨_, _, rfl, run_takeDeferred BD.out, ?_⟩⟩
    refine ⟨_, results_cell_row (p := 2) rfl _ _ (N + 1) _ _ _ _ rfl z1 Try.underlying101 rfl (by kernel_rfl), ?_⟩
    have fr : ∀ k, N + 4 ≤ k → ¬ (k < N + 4 ∧ N ≤ k) := fun k h1 h2 => by omega
    have hav : ∀ (i : Nat) (x : Yd), xs[i]? = some x → ((W.setCell ⟨N + 1, 0, none⟩ (.slice Ao ns.length co)).setCell ⟨N + 1, 1, none⟩ (.slice Au is.length cu)).ownsRow (N + 4) 3 1 x.av x.nd.args.length (ints x.nd.args) := fun i x hx =>
      own_kept (HS.out.2.2 x (List.mem_of_getElem? hx)) KU.out (fun k hk => fr k ((HS.out.2.2 x (List.mem_of_getElem? hx)).lt k hk).1)
    refine ⟨_, _, xs.map Yd.av, rfl, ⟨⟨by rw [List.length_map, ← HS.out.1, List.length_map], own_turn (own_kept H2.out KU.out (fun k hk => fr k (H3.out k hk).1)) hg turn, fun k hk => ?_, HS.out.2.1, fun i a n ha hn => ?_⟩, own_turn (own_kept H5.out KU.out (fun k hk => fr k (H6.out k hk).1)) hg turn, fun k hk => ?_, ?_⟩, ?_⟩
    · have := (H3.out k hk).1; unfold Fr; omega
    · rw [List.getElem?_map] at ha
      have hn' : (xs.map Yd.nd)[i]? = some n := by rw [HS.out.1]; exact hn
      rw [List.getElem?_map] at hn'
      cases hx : xs[i]? with
      | none => rw [hx] at ha; cases ha
      | some x =>
        rw [hx] at ha hn'
        simp only [Option.map_some, Option.some.injEq] at ha hn'
        subst ha; subst hn'
        have o := hav i x hx
        exact ⟨own_zero (own_turn o hg turn), fun k hk => by have := (o.lt k hk).1; unfold Fr; omega⟩
    · have := (H6.out k hk).1; unfold Fr; omega
    · intro a ha k hk e
      obtain ⟨y, hy, rfl⟩ := List.mem_map.1 ha
      have h1 := (H6.out k e).2 y hy
      have h2 := HI2.out.avm y hy k hk
      omega
    · exact (HI2.out.kept.trans KU.out (fun k hlt hk => by omega)).grown hg (fun k hk hlt => by injection hk with hk; omega)
  case stop =>
    rintro D c pre W _ _ h _
    exact h.elim
end Go.Proofs.Ytooalgnppnmeaaa
