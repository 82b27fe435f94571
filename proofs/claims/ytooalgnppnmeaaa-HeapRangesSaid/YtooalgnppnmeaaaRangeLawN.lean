/- A range over a function within a round of another one. No Go and no program here. -/
import Derived.Test.YtooalgnppnmeaaaRangeLaw
namespace Go.Proofs.Ytooalgnppnmeaaa
open Go.RowKit

variable {F : Fence} {n : Nat} {P : Program}
theorem range_lawN {α : Type} {g : Operand} {ps : Array Tmp} {assign body : Code} {Q : Exit → Act → World → Prop} {a : Act} {w : World}
    {l₀ : Nat} {r₀ : Loop} (hro : F.round = some l₀) (hl₀ : w.heap[l₀]? = some (.loop r₀)) (h1 : 1 ≤ n) {gf : Nat} {lb : Array Value} (hg : a.eval g = .func (.func gf) #[] lb) (hFg : F.fn gf) (eg : ∀ args w, (callFunc gf args).run P w = .ok (.enter gf args) w)
    {encs : α → Array Value} {mk : α → Nat} {X : List α → α → World → Prop} {S : List α → World → Prop} {Sp : List α → Prop} {N : Nat} (hseq : Gives F (n - 1) P gf lb encs mk X w.heap.size S Sp N w) (hps : ∀ x, (encs x).size = ps.size)
    (I : List α → World → Prop) (Ix : Code → List α → World → Prop) (Ax : List α → α → Act → World → Prop)
    (hI : OwnFrom w.heap.size I) (hIx : ∀ c, OwnFrom w.heap.size (Ix c)) (hS : OwnFrom w.heap.size S) (hAx : ∀ pre x a', OwnFrom w.heap.size (fun (_ : Unit) W => Ax pre x a' W)) (h0 : I [] w)
    (hassign : ∀ (l : Nat) (pre : List α) (x : α) (W : World) (K : Act → World → Prop), I pre W → X pre x W → mk x ≤ W.heap.size → w.heap.size + 1 ≤ mk x → (∀ a' W', Kept (Outer w.heap.size (mk x)) W W' → Ax pre x a' W' → K a' W') →
      assign.wpIn (F.inRound l) (n - 1 - 1) P (Exit.then K (fun _ _ _ => False)) { tmps := (ps.zip (encs x)).foldl (fun t (p, v) => t.setIfInBounds p v) a.tmps, defers := [] } W)
    (hbody : ∀ (l : Nat) (pre : List α) (x : α) (a' : Act) (W : World), w.heap.size ≤ l → (∃ r, W.heap[l]? = some (.loop r)) → Ax pre x a' W → mk x ≤ W.heap.size → w.heap.size + 1 ≤ mk x → pre.length < N → body.wpIn (F.inRound l) (n - 1 - 1) P (roundEnds w.heap.size (mk x) I Ix (pre ++ [x]) W) a' W)
    (hdone : ∀ (xs : List α) (W : World), S xs W → I xs W → Q .normal a W)
    (hstop : ∀ (c : Code) (pre : List α) (W : World), Sp pre → Ix c pre W → c.wpIn F n P Q a W) :
    (Code.rangeFunc g ps assign body).wpIn F n P Q a w := by
  obtain ⟨B, hB⟩ : ∃ B, w.heap.size = B := ⟨_, rfl⟩
  rw [hB] at hI hIx hS hAx hassign hbody hseq
  refine wpIn_rangeFunc fun fn hfn => ?_
  rw [hro]
  obtain ⟨R, hR⟩ : ∃ R : LoopState → Option Code → Loop, R = fun st pe => { state := st, pending := pe, fn, tmps := a.tmps, params := ps, assign, body, defers := r₀.defers } := ⟨_, rfl⟩
  obtain ⟨V, hV⟩ : ∃ V, w.alloc (.loop (R .ready none)) = V := ⟨_, rfl⟩
  have vl : V.heap[B]? = some (.loop (R .ready none)) := by
    subst hV; exact hB ▸ heap_alloc_new w _
  have vz : V.heap.size = B + 1 := by subst hV; simp [hB]
  have vi : I [] V := by subst hV; exact hI.alloc _ h0
  have vb : Below w.heap.size w V := by subst hV; exact (Below.refl _ w).alloc (Nat.le_refl _) _
  -- a change of one of the loop's own two blocks
  have own : ∀ {β : Type} {I : β → World → Prop}, OwnFrom B I → ∀ {s : β} {A C : World} {row : Option Nat}, I s A → A.grownBy C row → (∀ r, row = some r → V.heap.size ≤ r ∧ ∃ o : Obj, A.heap[r]? = some o ∧ o.isWalk = true) → I s C :=
    fun h _ _ _ _ hs hg hr => h _ _ _ _ hs hg (fun r e => by obtain ⟨h1, o, h2, h3⟩ := hr r e; exact ⟨by omega, o, h2, Obj.not_cells_of_walk h3⟩)
  have stay : ∀ {A C : World} {row : Option Nat} {k : Nat} {o : Obj}, A.grownBy C row → (∀ r, row = some r → V.heap.size ≤ r ∧ ∃ o : Obj, A.heap[r]? = some o ∧ o.isWalk = true) → A.heap[k]? = some o → o.isWalk = false → C.heap[k]? = some o :=
    fun hg hr hk ho => (grownBy_keeps hg (fun r e => (hr r e).2) hk ho).trans hk
  refine ⟨w.heap.size, [], V, { target := .fn (.func gf) lb, args := #[.func (.yield w.heap.size) #[] #[]] }, V, gf, #[.func (.yield w.heap.size) #[] #[]] ++ lb, V, ?_, ?_, ?_, ?_, fun _ => h1, ?_⟩
  · rw [← hV, hR]; exact run_enterLoop_inner hl₀ _ _ _ _ _
  · simp only [resolve, hg]
    simp [go_sem]
  · intro f' hf'; simp [Target.leads] at hf'; subst hf'; exact hFg
  · simp [invoke, go_sem, eg]
  rw [hB]
  refine (hseq B (fun pre W => I pre W ∧ W.heap[B]? = some (.loop (R .ready none)))
    (fun pre W => ∃ c, Ix c pre W ∧ W.heap[B]? = some (.loop (R .done (some c)))) V vb
    (fun s A C row hs hg hr => ⟨own hI hs.1 hg hr, stay hg hr hs.2 rfl⟩)
    (fun s A C row ⟨c, h1, h2⟩ hg hr => ⟨c, own (hIx c) h1 hg hr, stay hg hr h2 rfl⟩) ?_ ⟨vi, vl⟩).mono ?_
  · rintro pre x W ⟨hi, hl⟩ hx hmk hmz hlen
    rw [vz] at hmk
    have hy := run_yield (P := P) (args := encs x) hl (by rw [hR]; exact hps x)
    rw [hR] at hy
    refine ⟨fn, _, assign, body, hy, roundIn_of_wpIn hfn (hassign _ pre x W _ hi hx hmz (by omega) fun a' W' hk hax => ?_)⟩
    clear hy
    have hl' := hk.mid (Nat.le_refl _) (by omega) hl
    have hlt := (Array.getElem?_eq_some_iff.1 hl').1
    refine ⟨_, run_beginRound hl' (by rw [hR]), ?_⟩
    obtain ⟨U, hU⟩ : ∃ U, W'.putObj B (.loop { R .ready none with state := .busy }) = U := ⟨_, rfl⟩
    have ul : U.heap[B]? = some (.loop { R .ready none with state := .busy }) := by subst hU; exact World.putObj_heap_same hlt
    have uc : CellsIn B (mk x) W U := by subst hU; exact (CellsIn.of hk).trans (CellsIn.put _ hl' rfl)
    have ua : Ax pre x a' U := by subst hU; exact (hAx pre x a').putObj (s := ()) _ hax (Nat.le_refl _) hl' rfl
    rw [hU]
    refine wpIn_mono (hbody _ pre x a' U (Nat.le_refl _) ⟨_, ul⟩ ua (Nat.le_trans hmz uc.size) (by omega) hlen) ?_
    -- the round's end
    have fin : ∀ (j : Option Code) (Z : World), Kept (Outer B (mk x)) U Z → ∃ Z', (Instr.endRound B j).run P Z = .ok (.bool j.isNone) Z' ∧ Z'.heap[B]? = some (.loop (R (if j.isNone then .ready else .done) j)) ∧ CellsIn B (mk x) Z Z' ∧
        (∀ {β : Type} {I : β → World → Prop} {s : β}, OwnFrom B I → I s Z → I s Z') := fun j Z hz => by
      have zl := hz.mid (Nat.le_refl _) (by omega) ul
      have hrun := run_endRound (P := P) j zl
      rw [hR] at hrun
      refine ⟨_, hrun, ?_, CellsIn.put _ zl rfl, fun h hs => h.putObj _ hs (Nat.le_refl _) zl rfl⟩
      rw [hR]; exact World.putObj_heap_same (Array.getElem?_eq_some_iff.1 zl).1
    rintro e a3 Z hp
    cases e with
    | normal =>
      obtain ⟨hz, hzi⟩ := hp
      obtain ⟨Z', h1, h2, h4, h5⟩ := fin none Z hz
      exact ⟨_, Z', h1, .inl ⟨rfl, ⟨h5 hI hzi, h2⟩, (uc.trans (CellsIn.of hz)).trans h4⟩⟩
    | ret =>
      obtain ⟨hz, hzi⟩ := hp
      obtain ⟨Z', h1, h2, h4, h5⟩ := fin (some .ret) Z hz
      exact ⟨_, Z', h1, .inr ⟨rfl, .ret, h5 (hIx _) hzi, h2⟩⟩
    | exit id =>
      obtain ⟨hz, hzi⟩ := hp
      obtain ⟨Z', h1, h2, h4, h5⟩ := fin (some (.exit id)) Z hz
      exact ⟨_, Z', h1, .inr ⟨rfl, .exit id, h5 (hIx _) hzi, h2⟩⟩
    | goto t =>
      obtain ⟨hz, hzi⟩ := hp
      obtain ⟨Z', h1, h2, h4, h5⟩ := fin (some (.goto t)) Z hz
      exact ⟨_, Z', h1, .inr ⟨rfl, .goto t, h5 (hIx _) hzi, h2⟩⟩
    | panic ch => exact hp.elim
    | outgrown => exact hp.elim
  · rintro e Z ⟨⟨v, rfl⟩, ⟨xs, hs, hi, hl⟩ | ⟨pre, hs, c, hi, hl⟩⟩
    · have hrun := run_endLoop (P := P) hl (by rw [hR]; simp)
      rw [hR] at hrun
      exact ⟨none, _, hrun, hdone xs _ (hS.putObj _ hs (Nat.le_refl _) hl rfl) (hI.putObj _ hi (Nat.le_refl _) hl rfl)⟩
    · have hrun := run_endLoop (P := P) hl (by rw [hR]; simp)
      rw [hR] at hrun
      exact ⟨some c, _, hrun, hstop c pre _ hs ((hIx c).putObj _ hi (Nat.le_refl _) hl rfl)⟩
end Go.Proofs.Ytooalgnppnmeaaa
