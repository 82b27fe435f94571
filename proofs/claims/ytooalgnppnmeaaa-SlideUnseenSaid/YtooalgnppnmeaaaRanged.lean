/- All, and a range over it. -/
import Derived.Test.YtooalgnppnmeaaaAll
namespace Go.Proofs.Ytooalgnppnmeaaa
open Go.RowKit Go.Shelf
attribute [local go_sem] Oper.semAt_some

theorem all_any (hb : Nat) (w : World) : Calls Try.prog 33 #[.pointer (some ⟨hb, 0, none⟩)] w fun e w' => e = .returned (.func (.func 56) #[] #[.pointer (some ⟨w.heap.size, 0, none⟩)]) ∧ w.alloc (.cells #[.pointer (some ⟨hb, 0, none⟩)] 25) = w' := by
  go_enter Try.func33, Try.ntmps33
  go_wp2
  go_ret
  exact ⟨rfl, rfl⟩

theorem results_cell2 {P : Program} {fn : Func} {p u : Tmp} {t1 t2 : TypeId} {d1 d2 : TypeDesc} (h : fn.results = #[.cell p t1, .cell u t2]) (tmps : Array Value) (w : World) {g1 g2 : Nat} {v1 v2 : Value}
    (h1 : tmps.getD p undef = .pointer (some ⟨g1, 0, none⟩)) (h2 : tmps.getD u undef = .pointer (some ⟨g2, 0, none⟩)) (c1 : w.cell? ⟨g1, 0, none⟩ = some v1) (c2 : w.cell? ⟨g2, 0, none⟩ = some v2)
    (u1 : P.underlying t1 = some d1) (u2 : P.underlying t2 = some d2) (e1 : (match d1 with | .struct _ | .array _ _ => true | _ => false) = false) (e2 : (match d2 with | .struct _ | .array _ _ => true | _ => false) = false) :
    (results fn tmps).run P w = .ok (.tuple #[v1, v2]) w := by
  have h1' : tmps[p]?.getD undef = .pointer (some ⟨g1, 0, none⟩) := by simpa using h1
  have h2' : tmps[u]?.getD undef = .pointer (some ⟨g2, 0, none⟩) := by simpa using h2
  simp [results, h, h1', h2', asAddr, loadVar, Sem.run_bind, Result.andThen, run_isAgg_plain u1 e1, run_isAgg_plain u2 e2, go_sem, c1, c2]

theorem own_turn {A C : World} {base : Nat} {e : TypeId} {s n : Nat} {v : Value} {xs : List Value} {row : Option Nat} (h : A.ownsRow base e s v n xs) (hg : A.grownBy C row) (hr : ∀ r, row = some r → ∃ o : Obj, A.heap[r]? = some o ∧ o.isCells = false) : C.ownsRow base e s v n xs :=
  own_move' h (fun k hk hlt => hg.block k hlt (fun er => by
    obtain ⟨o, h1, h2⟩ := own_cells h hk
    obtain ⟨o', h3, h4⟩ := hr k er.symm
    rw [h1] at h3; injection h3 with h3; rw [h3, h4] at h2; cases h2))
theorem blk_turn {A C : World} {k : Nat} {o : Obj} {row : Option Nat} (h : A.heap[k]? = some o) (ho : o.isCells = true) (hg : A.grownBy C row) (hr : ∀ r, row = some r → ∃ o : Obj, A.heap[r]? = some o ∧ o.isCells = false) : C.heap[k]? = some o :=
  (hg.block k (Array.getElem?_eq_some_iff.1 h).1 (fun er => by
    obtain ⟨o', h3, h4⟩ := hr k er.symm
    rw [h] at h3; injection h3 with h3; rw [h3, h4] at ho; cases ho)).trans h

/-- Between two rounds of 'ranged': what has come stands in the list; the three variables' blocks. -/
structure RgI (w : World) (N : Nat) (pre : List Yd) (W : World) : Prop where
  size : w.heap.size = N
  out : ∃ v, W.heap[N + 2]? = some (.cells #[v] 39 (0, 0)) ∧ W.ownsRow 0 32 5 v pre.length (flat (pre.map Yd.av) (pre.map Yd.nd)) ∧ (∀ k, v.ownBlock = some k → N + 4 ≤ k ∧ ∀ y ∈ pre, y.m ≤ k) ∧ (pre = [] → v = .slice none 0 0)
  r2 : W.heap[N]? = some (.cells #[.slice none 0 0] 39 (0, 0))
  r3 : W.heap[N + 1]? = some (.cells #[.bool false] 4 (0, 0))
  kept : Kept No w W
theorem RgI.own (w : World) (N : Nat) : OwnFrom (N + 4) (RgI w N) := by
  intro pre A C row h hg hr
  have hr2 := fun r e => (hr r e).2
  obtain ⟨v, h1, h2, h3, h4⟩ := h.out
  exact ⟨h.size, ⟨v, blk_turn h1 rfl hg hr2, own_turn h2 hg hr2, h3, h4⟩, blk_turn h.r2 rfl hg hr2, blk_turn h.r3 rfl hg hr2, h.kept.grown hg (fun k hk hlt => by have := (hr k hk).1; have := h.size; omega)⟩
theorem YdAt.own (base B : Nat) (ns : List Nd) (pre : List Yd) (x : Yd) : OwnFrom B (fun (_ : Unit) W => YdAt base ns pre x W) :=
  fun _ _ _ _ h hg hr => ⟨h.1, h.2.1, own_turn h.2.2.1 hg (fun r e => (hr r e).2), h.2.2.2⟩
theorem AllS.own (base B : Nat) (ns : List Nd) : OwnFrom B (AllS base ns) :=
  fun _ _ _ _ h hg hr => ⟨h.1, h.2.1, fun x hx => own_turn (h.2.2 x hx) hg (fun r e => (hr r e).2)⟩
/-- The box of a node. -/
def NdBox (bx : Nat) (x : Yd) (W : World) : Prop := W.heap[bx]? = some (.cells (ndCells x.av x.nd).toArray 32 (0, 0))
theorem NdBox.own (B bx : Nat) (x : Yd) : OwnFrom B (fun (_ : Unit) W => NdBox bx x W) :=
  fun _ _ _ _ h hg hr => blk_turn h rfl hg (fun r e => (hr r e).2)
/-- The list takes one more. -/
theorem RgI.push {w W : World} {N : Nat} {pre : List Yd} (h : RgI w N pre W) {x : Yd} (hav : x.av.oneCell' = true) (hm : x.m ≤ W.heap.size) (hpm : ∀ y ∈ pre, y.m = x.m) (hlen : pre.length ≤ 4000) {v : Value} (hv : W.heap[N + 2]? = some (.cells #[v] 39 (0, 0))) :
    ∃ g c w4, (Builtin.append_ #[39, 39] 39 #[v, .slice (some ⟨W.heap.size, 0, none⟩) 1 1]).run Try.prog (W.alloc (.cells (ndCells x.av x.nd).toArray 32)) = .ok (.slice (some ⟨g, 0, none⟩) (pre.length + 1) c) w4 ∧
      w4.heap[N + 2]? = some (.cells #[v] 39 (0, 0)) ∧ RgI w N (pre ++ [x]) (w4.setCell ⟨N + 2, 0, none⟩ (.slice (some ⟨g, 0, none⟩) (pre.length + 1) c)) ∧
      Kept (Outer (N + 4) x.m) W (w4.setCell ⟨N + 2, 0, none⟩ (.slice (some ⟨g, 0, none⟩) (pre.length + 1) c)) := by
  obtain ⟨v0, h1, h2, h3, h4⟩ := h.out
  rw [hv] at h1
  injection h1 with h1
  injection h1 with h1
  have h1 : v = v0 := by simpa using h1
  subst h1
  have hn1 : RowR (W.alloc (.cells (ndCells x.av x.nd).toArray 32)) 5 (fun k => k = W.heap.size) (.slice (some ⟨W.heap.size, 0, none⟩) 1 1) 1 (ndCells x.av x.nd) := by
    have := RowR.new W 5 1 (ndCells x.av x.nd).toArray 32 (by simp [ndCells])
    simpa using this
  obtain ⟨v', w4, hrun, ho, hg, hat, hs⟩ := run_append_row (P := Try.prog) (ty := 39) Try.underlying39 infoN rfl (by decide) (h2.alloc (.cells (ndCells x.av x.nd).toArray 32)) hn1 (ndCells_one x.av x.nd hav) (by omega) (by omega) (Nat.zero_le _)
  obtain ⟨g, c, rfl⟩ := hs (by omega)
  have hlt := (Array.getElem?_eq_some_iff.1 hv).1
  have k4 : Kept (fun k => v.ownBlock = some k) W w4 := ((Kept.refl _ W).alloc _).grown hg (fun k hk _ => hk)
  have nb : ∀ k, k < N + 4 → ¬ (v.ownBlock = some k) := fun k hk e => by have := (h3 k e).1; omega
  have b4 := k4.blk hv (nb _ (by omega))
  have gN : g ≠ N + 2 := by
    rintro rfl
    obtain ⟨o, e1, _⟩ := own_cells ho (k := N + 2) rfl
    rw [b4] at e1
    have := ho.2
    rcases this with ⟨e, _⟩ | ⟨g', cap, cur, e, _, hh, _⟩
    · cases e
    · injection e with e _ _
      injection e with e
      injection e with e
      subst e
      rw [b4] at hh
      injection hh with hh
      injection hh with _ ht
      cases ht
  have ks : Kept (fun k => k = N + 2) w4 (w4.setCell ⟨N + 2, 0, none⟩ (.slice (some ⟨g, 0, none⟩) (pre.length + 1) c)) := (Kept.refl (fun k => k = N + 2) w4).setCell (p := ⟨N + 2, 0, none⟩) (.inl rfl) _
  have hz4 := k4.size
  refine ⟨g, c, w4, hrun, b4, ⟨h.size, ⟨_, by simpa using blk_set b4 0 (.slice (some ⟨g, 0, none⟩) (pre.length + 1) c), ?_, fun k hk => ?_, fun e => by simp at e⟩, ks.blk (k4.blk h.r2 (nb _ (by omega))) (by omega), ks.blk (k4.blk h.r3 (nb _ (by omega))) (by omega), ?_⟩, ?_⟩
  · have := own_kept ho ks (fun k hk e => by simp [Value.ownBlock] at hk; omega)
    rw [List.map_append, List.map_append, flat_append _ _ _ _ (by simp)]
    simpa [flat_cons, flat_nil] using this
  · have hk' : g = k := by simpa [Value.ownBlock] using hk
    subst hk'
    rcases hat with e | e
    · obtain ⟨e1, e2⟩ := h3 g e.symm
      refine ⟨e1, fun y hy => ?_⟩
      rcases List.mem_append.1 hy with hy | hy
      · exact e2 y hy
      · have : y = x := by simpa using hy
        subst this
        cases pre with
        | nil => rw [h4 rfl] at e; simp [Value.ownBlock] at e
        | cons z pre => have := e2 z (by simp); have := hpm z (by simp); omega
    · have e : g = W.heap.size + 1 := by simpa [Value.ownBlock] using e
      refine ⟨by omega, fun y hy => ?_⟩
      rcases List.mem_append.1 hy with hy | hy
      · have := hpm y hy; omega
      · have : y = x := by simpa using hy
        subst this; omega
  · exact (h.kept.trans k4 (fun k hlt hk => by have := (h3 k hk).1; have := h.size; omega)).setCell (p := ⟨N + 2, 0, none⟩) (.inr (by have := h.size; dsimp only; omega)) _
  · refine ((k4.mono (fun k _ hk => ?_)).setCell (p := ⟨N + 2, 0, none⟩) (.inl (by unfold Outer; dsimp only; omega)) _)
    obtain ⟨e1, e2⟩ := h3 k hk
    unfold Outer
    cases pre with
    | nil => rw [h4 rfl] at hk; simp [Value.ownBlock] at hk
    | cons z pre => have := e2 z (by simp); have := hpm z (by simp); omega

/-- An append whose run is known, in a fenced walk: an arm: '(gi_at_builtin; refine wpListIn_append_run rfl (.tmp A) (.tmp B) T rfl rfl rfl happ ?_; clear happ)'. -/
theorem wpListIn_append_run {F : Fence} {n : Nat} {P : Program} {ops : Array Oper} {rest : List Oper} {o : Oper} {a : Act} {w : World} {Q : Exit → Act → World → Prop} (hgd : o.guard = none) (s x : Operand) (t : TypeId)
    (ho : o.op = .call { callee := .builtin .append, args := #[s, x], argTypes := #[t, t] }) {v xv v' : Value} {w' : World} (hs : a.eval s = v) (hx : a.eval x = xv)
    (hrun : (Builtin.append_ #[t, t] o.type #[v, xv]).run P w = .ok v' w') (h : wpListIn F n P ops Q rest (a.put o.dst v') w') : wpListIn F n P ops Q (o :: rest) a w := by
  refine wpListIn_plain hgd fun K hK => ?_
  unfold Oper.wpIn
  refine ⟨?_, ?_⟩
  · simp [Oper.about, ho, resolve, Target.leads, Sem.run_pure]
  · rw [Oper.semAt_plain F _ _ (by rw [ho]; intro c hc; cases hc)]
    unfold execOp
    simp only [ho, resolve, invoke, builtin, Sem.run_bind, Sem.run_pure, Result.andThen_ok, List.map_toArray, List.map_cons, List.map_nil, hs, hx, hrun]
    exact hK _ _ h

set_option maxRecDepth 100000 in
set_option maxHeartbeats 4000000 in
theorem ranged_any {F : Nat → Prop} {hb : Nat} {room : Int} {ns : List Nd} {w : World} (h : HeapO w F hb room ns) (hlen : ns.length ≤ 4000) (hsm : ∀ n ∈ ns, n.args.length ≤ 6) :
    Calls Try.prog 69 #[.pointer (some ⟨hb, 0, none⟩)] w (fun e w' => ∃ v, e = .returned (.tuple #[v, .bool true]) ∧ NodesO w' (Fr w.heap.size) v ns ∧ Kept No w w') := by
  have H := Lib.hid h
  have HSm := Lib.hid hsm
  clear h hsm
  refine (callsIn_wide (n := 9)).1 ?_
  refine callsIn_of_wp_marks Try.func69 rfl trivial ?_ rfl
  simp only [Try.ntmps69, List.size_toArray, List.length_cons, List.length_nil, Nat.reduceAdd, Nat.reduceSub, Array.replicate_succ, Array.replicate_zero, List.push_toArray, List.append_toArray, List.nil_append, List.cons_append]
  gi_wp2_with fail
  refine ⟨trivial, (callsIn_wide.2 (all_any hb _)).mono ?_⟩
  rintro e wA ⟨rfl, hwA⟩
  obtain ⟨N, hN⟩ : ∃ N, w.heap.size = N := ⟨_, rfl⟩
  have kA : Kept No w wA := hwA ▸ ((((Kept.refl No w).alloc _).alloc _).alloc _).alloc _
  have zA : wA.heap.size = N + 4 := by rw [← hwA]; simp [hN]
  have g2 : wA.heap[N]? = some (.cells #[.slice none 0 0] 39 (0, 0)) := by
    rw [← hwA, ← hN]; exact blk_alloc (blk_alloc (blk_alloc (heap_alloc_new w _) _) _) _
  have g3 : wA.heap[N + 1]? = some (.cells #[.bool false] 4 (0, 0)) := by
    rw [← hwA, ← hN]; exact blk_alloc (blk_alloc (by simpa using heap_alloc_new (w.alloc _) _) _) _
  have g4 : wA.heap[N + 2]? = some (.cells #[.slice none 0 0] 39 (0, 0)) := by
    rw [← hwA, ← hN]; exact blk_alloc (by simpa using heap_alloc_new ((w.alloc _).alloc _) _) _
  have gb : wA.cell? ⟨N + 3, 0, none⟩ = some (.pointer (some ⟨hb, 0, none⟩)) := by
    rw [cell_of_row _ _ _ _ _ _ (show wA.heap[N + 3]? = some (.cells #[.pointer (some ⟨hb, 0, none⟩)] 25 (0, 0)) by rw [← hwA, ← hN]; simpa using heap_alloc_new (((w.alloc _).alloc _).alloc _) _)]
    rfl
  have I0 : RgI w N [] wA := ⟨hN, ⟨_, g4, World.ownsRow_nil _ _ _ _, fun k hk => by simp [Value.ownBlock] at hk, fun _ => rfl⟩, g2, g3, kA⟩
  have hG := all_gives (w := wA) 8 (by omega) gb (by omega) (H.out.keptNo kA) hlen HSm.out
  simp only [World.size_alloc, hN] at *
  clear hwA g2 g3 g4 gb kA
  gi_wp2
  simp only [Nat.add_assoc, Nat.reduceAdd]
  refine range_law rfl (by omega) (gf := 56) (lb := #[.pointer (some ⟨N + 3, 0, none⟩)]) rfl trivial (enters_of Try.func56 (by kernel_rfl) rfl) hG (fun _ => rfl) (RgI w N) (fun _ _ _ => False)
    (fun pre x a' W => RgI w N pre W ∧ YdAt wA.heap.size ns pre x W ∧ ∃ bx, NdBox bx x W ∧ a' = { tmps := #[.pointer (some ⟨hb, 0, none⟩), undef, .pointer (some ⟨N, 0, none⟩), .pointer (some ⟨N + 1, 0, none⟩), .pointer (some ⟨N + 2, 0, none⟩), .int .i64 (x.i : Int), .pointer (some ⟨bx, 0, none⟩), .pointer (some ⟨hb, 0, none⟩), .func (.func 56) #[] #[.pointer (some ⟨N + 3, 0, none⟩)], .int .i64 (x.i : Int), ndVal x.av x.nd, undef, undef, undef, undef, undef, undef, undef, undef, undef], defers := [] })
    (by rw [zA]; exact RgI.own w N) (fun _ _ _ _ _ h _ _ => h) (AllS.own _ _ _)
    (fun pre x a' _ A C row h hg hr => ⟨(by rw [zA] at hr; exact RgI.own w N pre A C row h.1 hg hr), YdAt.own _ _ _ _ _ () A C row h.2.1 hg hr, by
      obtain ⟨bx, h1, h2⟩ := h.2.2
      exact ⟨bx, NdBox.own _ _ _ () A C row h1 hg hr, h2⟩⟩) I0 ?assign ?body ?done ?stop
  case assign =>
    rintro l pre ⟨m, i, av, nd⟩ W K hI hX hm hm2 hK
    dsimp only [ydArgs, ndVal] at hX hm hm2 ⊢
    have hx3 : W.ownsRow _ _ 1 av nd.args.length (ints nd.args) := hX.2.2.1
    obtain ⟨Av, cv, rfl⟩ := (own_reads hx3 (F := fun _ => True) (fun _ _ => trivial)).slice
    clear hx3
    have hK2 := Lib.hid (hK { tmps := #[.pointer (some ⟨hb, 0, none⟩), undef, .pointer (some ⟨N, 0, none⟩), .pointer (some ⟨N + 1, 0, none⟩), .pointer (some ⟨N + 2, 0, none⟩), .int .i64 (i : Int), .pointer (some ⟨W.heap.size, 0, none⟩), .pointer (some ⟨hb, 0, none⟩), .func (.func 56) #[] #[.pointer (some ⟨N + 3, 0, none⟩)], .int .i64 (i : Int), .agg #[.int .i64 nd.sym, .slice Av nd.args.length cv, .int .i64 nd.mark, .bool nd.pts, .int .i64 nd.to], undef, undef, undef, undef, undef, undef, undef, undef, undef], defers := [] }
      (W.alloc (.cells #[.int .i64 nd.sym, .slice Av nd.args.length cv, .int .i64 nd.mark, .bool nd.pts, .int .i64 nd.to] 32)) ((Kept.refl _ W).alloc _)
      ⟨RgI.own w N pre W _ none hI ((Kept.refl No W).alloc _).grownNo (fun r e => by cases e), YdAt.own _ 0 _ _ _ () W _ none hX ((Kept.refl No W).alloc _).grownNo (fun r e => by cases e), _, heap_alloc_new W _, rfl⟩)
    clear hK hI hX
    gi_wp2
    exact hK2.out
  case body =>
    rintro l pre ⟨m, i, av, nd⟩ a' W hl hrec ⟨hI, hX, bx, hbx, rfl⟩ hm hm2 hlen
    dsimp only [ndVal] at hX hbx hm hm2 ⊢
    have hx3 : W.ownsRow _ _ 1 av nd.args.length (ints nd.args) := hX.2.2.1
    obtain ⟨Av, cv, rfl⟩ := (own_reads hx3 (F := fun _ => True) (fun _ _ => trivial)).slice
    clear hx3
    obtain ⟨v, h1, h2, h3, h4⟩ := hI.out
    obtain ⟨Ao, co, rfl⟩ := (own_reads h2 (F := fun _ => True) (fun _ _ => trivial)).slice
    obtain ⟨g, c, w4, happ, hb4, hI4, hk4⟩ := hI.push (x := ⟨m, i, .slice Av nd.args.length cv, nd⟩) rfl hm hX.2.2.2.2 (by omega) h1
    dsimp only [ndCells] at happ hbx
    rw [zA] at *
    have HI4 := Lib.hid hI4
    have HK4 := Lib.hid hk4
    have hi : i = pre.length := hX.1
    obtain ⟨⟨p0, p1, p2, p3, p4⟩, q0, q1, q2, q3, q4⟩ := cells5 hbx
    have c1 : W.cell? ⟨N + 2, 0, none⟩ = some (.slice Ao pre.length co) := by rw [cell_of_row _ _ _ _ _ _ h1]; rfl
    have c4 : w4.cell? ⟨N + 2, 0, none⟩ = some (.slice Ao pre.length co) := by rw [cell_of_row _ _ _ _ _ _ hb4]; rfl
    have f4 : w4.frozen? ⟨N + 2, 0, none⟩ = false := frozen_of_row _ _ _ _ _ hb4
    subst hi
    clear hI hX h1 h2 h3 h4 hI4 hk4 hbx hb4
    gi_wp2_with (gi_at_builtin; refine wpListIn_append_run rfl (.tmp 15) (.tmp 17) 39 rfl rfl rfl happ ?_; clear happ)
    exact ⟨HK4.out, HI4.out⟩
  case done =>
    rintro D xs W hD hS hI hdef
    rw [zA] at hD hS
    obtain ⟨v, h1, h2, h3, _⟩ := hI.out
    have hnd := hS.1
    have hxl : xs.length = ns.length := by rw [← hnd, List.length_map]
    rw [hnd, hxl] at h2
    obtain ⟨Ao, co, rfl⟩ := (own_reads h2 (F := fun _ => True) (fun _ _ => trivial)).slice
    have b2 := blk_far (p := ⟨N + 1, 0, none⟩) (blk_set hI.r2 0 (.slice Ao ns.length co)) (by simp) (.bool true)
    have b3 := blk_set (blk_far (p := ⟨N, 0, none⟩) hI.r3 (by simp) (.slice Ao ns.length co)) 0 (.bool true)
    have bD := blk_far (p := ⟨N + 1, 0, none⟩) (blk_far (p := ⟨N, 0, none⟩) hdef (by dsimp only; omega) (.slice Ao ns.length co)) (by dsimp only; omega) (.bool true)
    have kU : Kept (fun k => k < N + 4 ∧ N ≤ k) W ((W.setCell ⟨N, 0, none⟩ (.slice Ao ns.length co)).setCell ⟨N + 1, 0, none⟩ (.bool true)) :=
      ((Kept.refl _ W).setCell (p := ⟨N, 0, none⟩) (.inl (by dsimp only; omega)) _).setCell (p := ⟨N + 1, 0, none⟩) (.inl (by dsimp only; omega)) _
    have c1 : W.cell? ⟨N + 2, 0, none⟩ = some (.slice Ao ns.length co) := by rw [cell_of_row _ _ _ _ _ _ h1]; rfl
    have c2 : W.cell? ⟨N, 0, none⟩ = some (.slice none 0 0) := by rw [cell_of_row _ _ _ _ _ _ hI.r2]; rfl
    have c3 : W.cell? ⟨N + 1, 0, none⟩ = some (.bool false) := by rw [cell_of_row _ _ _ _ _ _ hI.r3]; rfl
    have f2 : W.frozen? ⟨N, 0, none⟩ = false := frozen_of_row _ _ _ _ _ hI.r2
    have f3 : W.frozen? ⟨N + 1, 0, none⟩ = false := frozen_of_row _ _ _ _ _ hI.r3
    have HD := Lib.hid hdef
    have HI := Lib.hid hI
    have HS := Lib.hid hS
    have H2 := Lib.hid h2
    have H3 := Lib.hid h3
    have B2 := Lib.hid b2
    have B3 := Lib.hid b3
    have BD := Lib.hid bD
    have KU := Lib.hid kU
    clear h1 hdef hI hS h2 h3 b2 b3 bD kU hnd hxl
    gi_wp2
    have hsz := HI.out.size
    have turn : ∀ r, some D = some r → ∃ o : Obj, ((W.setCell ⟨N, 0, none⟩ (.slice Ao ns.length co)).setCell ⟨N + 1, 0, none⟩ (.bool true)).heap[r]? = some o ∧ o.isCells = false := fun r e => by
      injection e with e
      subst e
      exact ⟨_, BD.out, rfl⟩
    have hg := grownBy_putObj' ((W.setCell ⟨N, 0, none⟩ (.slice Ao ns.length co)).setCell ⟨N + 1, 0, none⟩ (.bool true)) D (.deferred none)
    have z2 := blk_turn B2.out rfl hg turn
    have z3 := blk_turn B3.out rfl hg turn
    refine ⟨by simp, .inl ⟨_, _, rfl, run_takeDeferred BD.out, ?_⟩⟩
    refine ⟨_, results_cell2 (p := 2) (u := 3) rfl _ _ rfl rfl (by rw [cell_of_row _ _ _ _ _ _ z2]; rfl) (by rw [cell_of_row _ _ _ _ _ _ z3]; rfl) Try.underlying39 Try.underlying4 rfl rfl, ?_⟩
    have fr : ∀ k, N + 4 ≤ k → ¬ (k < N + 4 ∧ N ≤ k) := fun k h1 h2 => by omega
    have hav : ∀ (i : Nat) (x : Yd), xs[i]? = some x → ((W.setCell ⟨N, 0, none⟩ (.slice Ao ns.length co)).setCell ⟨N + 1, 0, none⟩ (.bool true)).ownsRow (N + 4) 3 1 x.av x.nd.args.length (ints x.nd.args) := fun i x hx =>
      own_kept (HS.out.2.2 x (List.mem_of_getElem? hx)) KU.out (fun k hk => fr k ((HS.out.2.2 x (List.mem_of_getElem? hx)).lt k hk).1)
    refine ⟨_, rfl, ⟨xs.map Yd.av, by rw [List.length_map, ← HS.out.1, List.length_map], own_turn (own_kept H2.out KU.out (fun k hk => fr k (H3.out k hk).1)) hg turn, fun k hk => ?_, HS.out.2.1, fun i a n ha hn => ?_⟩, ?_⟩
    · have := (H3.out k hk).1; unfold Fr; omega
    · rw [List.getElem?_map] at ha
      have hn' : (xs.map Yd.nd)[i]? = some n := by rw [HS.out.1]; exact hn
      rw [List.getElem?_map] at hn'
      cases hx : xs[i]? with
      | none => rw [hx] at ha; cases ha
      | some x =>
        rw [hx] at ha hn'
        simp only [Option.map_some, Option.some.injEq] at ha hn'
        subst ha; subst hn'
        have o := hav i x hx
        exact ⟨own_zero (own_turn o hg turn), fun k hk => by have := (o.lt k hk).1; unfold Fr; omega⟩
    · exact (HI.out.kept.trans KU.out (fun k hlt hk => by omega)).grown hg (fun k hk hlt => by injection hk with hk; omega)
  case stop =>
    rintro D c pre W _ _ h _
    exact h.elim
end Go.Proofs.Ytooalgnppnmeaaa
