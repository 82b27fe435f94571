/- A range over a function whose rounds are told what the memory is of what they are handed. No Go and no program here. -/
import Derived.Test.YtooalgnppnmeaaaMem
import Derived.RangeFuncNested
namespace Go.Proofs.Ytooalgnppnmeaaa
open Go.RowKit

/-- Every block of cells from B on and below m lies as it lay. -/
structure CellsIn (B m : Nat) (W W' : World) : Prop where
  size : W.heap.size ≤ W'.heap.size
  same : ∀ (k : Nat) (o : Obj), B ≤ k → k < m → W.heap[k]? = some o → o.isCells = true → W'.heap[k]? = some o
theorem CellsIn.refl (B m : Nat) (W : World) : CellsIn B m W W := ⟨Nat.le_refl _, fun _ _ _ _ h _ => h⟩
theorem CellsIn.trans {B m : Nat} {X Y Z : World} (h : CellsIn B m X Y) (k : CellsIn B m Y Z) : CellsIn B m X Z :=
  ⟨Nat.le_trans h.size k.size, fun i o hB hm hi ho => k.same i o hB hm (h.same i o hB hm hi ho) ho⟩
theorem CellsIn.put {B m : Nat} {W : World} {l : Nat} {o : Obj} (o' : Obj) (h : W.heap[l]? = some o) (ho : o.isCells = false) : CellsIn B m W (W.putObj l o') :=
  ⟨by simp, fun k u _ _ hk hu => (World.putObj_heap_other (fun e => by rw [e, h] at hk; injection hk with hk; rw [← hk, ho] at hu; cases hu)).trans hk⟩
/-- Blocks below B, and from m on. -/
def Outer (B m : Nat) : Nat → Prop := fun k => k < B ∨ m ≤ k
theorem CellsIn.of {B m : Nat} {W W' : World} (h : Kept (Outer B m) W W') : CellsIn B m W W' :=
  ⟨h.size, fun k _ hB hm hk _ => (h.block k (Array.getElem?_eq_some_iff.1 hk).1 (by unfold Outer; omega)).trans hk⟩
theorem Kept.mid {B m : Nat} {W W' : World} (h : Kept (Outer B m) W W') {k : Nat} {o : Obj} (hB : B ≤ k) (hm : k < m) (hk : W.heap[k]? = some o) : W'.heap[k]? = some o :=
  (h.block k (Array.getElem?_eq_some_iff.1 hk).1 (by unfold Outer; omega)).trans hk

/-- An iterator's word: each round is handed an x of which X holds there, behind what has come; at the end S holds. -/
def Gives {α : Type} (F : Fence) (n : Nat) (P : Program) (g : Nat) (lb : Array Value) (encs : α → Array Value) (mk : α → Nat) (X : List α → α → World → Prop) (B : Nat) (S : List α → World → Prop) (Sp : List α → Prop) (N : Nat) (w : World) : Prop :=
  ∀ (l : Nat) (J Jx : List α → World → Prop) (W : World), Below w.heap.size w W → AbidesFrom W.heap.size J → AbidesFrom W.heap.size Jx →
    (∀ pre x W1, J pre W1 → X pre x W1 → W.heap.size ≤ mk x → mk x ≤ W1.heap.size → pre.length < N → YieldAt F (n - 1) P l (encs x) W1 fun e W' =>
      (e = .returned (.bool true) ∧ J (pre ++ [x]) W' ∧ CellsIn B (mk x) W1 W') ∨ (e = .returned (.bool false) ∧ Jx (pre ++ [x]) W')) →
    J [] W →
    CallsIn F n P g (#[.func (.yield l) #[] #[]] ++ lb) W fun e W' => (∃ v, e = .returned v) ∧ ((∃ xs, S xs W' ∧ J xs W') ∨ (∃ pre, Sp pre ∧ Jx pre W'))

/-- How a round's body may be left. -/
def roundEnds {α : Type} (B m : Nat) (I : List α → World → Prop) (Ix : Code → List α → World → Prop) (xs : List α) (W : World) : Exit → Act → World → Prop
  | .normal, _, W' => Kept (Outer B m) W W' ∧ I xs W'
  | .ret, _, W' => Kept (Outer B m) W W' ∧ Ix .ret xs W'
  | .exit id, _, W' => Kept (Outer B m) W W' ∧ Ix (.exit id) xs W'
  | .goto t, _, W' => Kept (Outer B m) W W' ∧ Ix (.goto t) xs W'
  | .panic _, _, _ => False
  | .outgrown, _, _ => False

variable {F : Fence} {n : Nat} {P : Program}
theorem range_law {α : Type} {g : Operand} {ps : Array Tmp} {assign body : Code} {Q : Exit → Act → World → Prop} {a : Act} {w : World}
    (hro : F.round = none) (h1 : 1 ≤ n) {gf : Nat} {lb : Array Value} (hg : a.eval g = .func (.func gf) #[] lb) (hFg : F.fn gf) (eg : ∀ args w, (callFunc gf args).run P w = .ok (.enter gf args) w)
    {encs : α → Array Value} {mk : α → Nat} {X : List α → α → World → Prop} {S : List α → World → Prop} {Sp : List α → Prop} {N : Nat} (hseq : Gives F (n - 1) P gf lb encs mk X w.heap.size S Sp N w) (hps : ∀ x, (encs x).size = ps.size)
    (I : List α → World → Prop) (Ix : Code → List α → World → Prop) (Ax : List α → α → Act → World → Prop)
    (hI : OwnFrom w.heap.size I) (hIx : ∀ c, OwnFrom w.heap.size (Ix c)) (hS : OwnFrom w.heap.size S) (hAx : ∀ pre x a', OwnFrom w.heap.size (fun (_ : Unit) W => Ax pre x a' W)) (h0 : I [] w)
    (hassign : ∀ (l : Nat) (pre : List α) (x : α) (W : World) (K : Act → World → Prop), I pre W → X pre x W → mk x ≤ W.heap.size → w.heap.size + 2 ≤ mk x → (∀ a' W', Kept (Outer w.heap.size (mk x)) W W' → Ax pre x a' W' → K a' W') →
      assign.wpIn (F.inRound l) (n - 1 - 1) P (Exit.then K (fun _ _ _ => False)) { tmps := (ps.zip (encs x)).foldl (fun t (p, v) => t.setIfInBounds p v) a.tmps, defers := [] } W)
    (hbody : ∀ (l : Nat) (pre : List α) (x : α) (a' : Act) (W : World), w.heap.size ≤ l ∧ l < mk x → (∃ r, W.heap[l]? = some (.loop r)) → Ax pre x a' W → mk x ≤ W.heap.size → w.heap.size + 2 ≤ mk x → pre.length < N → body.wpIn (F.inRound l) (n - 1 - 1) P (roundEnds w.heap.size (mk x) I Ix (pre ++ [x]) W) a' W)
    (hdone : ∀ (D : Nat) (xs : List α) (W : World), w.heap.size ≤ D → S xs W → I xs W → W.heap[D]? = some (.deferred (some [])) → Q .normal { a with defers := { target := .collected D, args := #[] } :: a.defers } W)
    (hstop : ∀ (D : Nat) (c : Code) (pre : List α) (W : World), w.heap.size ≤ D → Sp pre → Ix c pre W → W.heap[D]? = some (.deferred (some [])) → c.wpIn F n P Q { a with defers := { target := .collected D, args := #[] } :: a.defers } W) :
    (Code.rangeFunc g ps assign body).wpIn F n P Q a w := by
  obtain ⟨B, hB⟩ : ∃ B, w.heap.size = B := ⟨_, rfl⟩
  rw [hB] at hI hIx hS hAx hassign hbody hdone hstop hseq
  refine wpIn_rangeFunc fun fn hfn => ?_
  rw [hro]
  obtain ⟨R, hR⟩ : ∃ R : LoopState → Option Code → Loop, R = fun st pe => { state := st, pending := pe, fn, tmps := a.tmps, params := ps, assign, body, defers := w.heap.size } := ⟨_, rfl⟩
  obtain ⟨V, hV⟩ : ∃ V, (w.alloc (.deferred (some []))).alloc (.loop (R .ready none)) = V := ⟨_, rfl⟩
  have vl : V.heap[B + 1]? = some (.loop (R .ready none)) := by
    subst hV; have := heap_alloc_new (w.alloc (.deferred (some []))) (.loop (R .ready none)); rwa [World.size_alloc, hB] at this
  have vd : V.heap[B]? = some (.deferred (some [])) := by
    subst hV; exact blk_alloc (hB ▸ heap_alloc_new w _) _
  have vz : V.heap.size = B + 2 := by subst hV; simp [hB]
  have vi : I [] V := by subst hV; exact hI.alloc _ (hI.alloc _ h0)
  have vb : Below w.heap.size w V := by subst hV; exact ((Below.refl _ w).alloc (Nat.le_refl _) _).alloc (by simp) _
  -- a change of one of the loop's own two blocks
  have own : ∀ {β : Type} {I : β → World → Prop}, OwnFrom B I → ∀ {s : β} {A C : World} {row : Option Nat}, I s A → A.grownBy C row → (∀ r, row = some r → V.heap.size ≤ r ∧ ∃ o : Obj, A.heap[r]? = some o ∧ o.isWalk = true) → I s C :=
    fun h _ _ _ _ hs hg hr => h _ _ _ _ hs hg (fun r e => by obtain ⟨h1, o, h2, h3⟩ := hr r e; exact ⟨by omega, o, h2, Obj.not_cells_of_walk h3⟩)
  have stay : ∀ {A C : World} {row : Option Nat} {k : Nat} {o : Obj}, A.grownBy C row → (∀ r, row = some r → V.heap.size ≤ r ∧ ∃ o : Obj, A.heap[r]? = some o ∧ o.isWalk = true) → A.heap[k]? = some o → o.isWalk = false → C.heap[k]? = some o :=
    fun hg hr hk ho => (grownBy_keeps hg (fun r e => (hr r e).2) hk ho).trans hk
  refine ⟨w.heap.size + 1, [{ target := .collected w.heap.size, args := #[] }], V, { target := .fn (.func gf) lb, args := #[.func (.yield (w.heap.size + 1)) #[] #[]] }, V, gf, #[.func (.yield (w.heap.size + 1)) #[] #[]] ++ lb, V, ?_, ?_, ?_, ?_, fun _ => h1, ?_⟩
  · rw [← hV, hR]; exact run_enterLoop_outer _ _ _ _ _
  · simp only [resolve, hg]
    simp [go_sem]
  · intro f' hf'; simp [Target.leads] at hf'; subst hf'; exact hFg
  · simp [invoke, go_sem, eg]
  rw [hB]
  refine (hseq (B + 1) (fun pre W => I pre W ∧ W.heap[B + 1]? = some (.loop (R .ready none)) ∧ W.heap[B]? = some (.deferred (some [])))
    (fun pre W => ∃ c, Ix c pre W ∧ W.heap[B + 1]? = some (.loop (R .done (some c))) ∧ W.heap[B]? = some (.deferred (some []))) V vb
    (fun s A C row hs hg hr => ⟨own hI hs.1 hg hr, stay hg hr hs.2.1 rfl, stay hg hr hs.2.2 rfl⟩)
    (fun s A C row ⟨c, h1, h2, h3⟩ hg hr => ⟨c, own (hIx c) h1 hg hr, stay hg hr h2 rfl, stay hg hr h3 rfl⟩) ?_ ⟨vi, vl, vd⟩).mono ?_
  · rintro pre x W ⟨hi, hl, hd⟩ hx hmk hmz hlen
    rw [vz] at hmk
    have hy := run_yield (P := P) (args := encs x) hl (by rw [hR]; exact hps x)
    rw [hR] at hy
    refine ⟨fn, _, assign, body, hy, roundIn_of_wpIn hfn (hassign _ pre x W _ hi hx hmz (by omega) fun a' W' hk hax => ?_)⟩
    clear hy
    have hl' := hk.mid (by omega) (by omega) hl
    have hd' := hk.mid (Nat.le_refl _) (by omega) hd
    have hlt := (Array.getElem?_eq_some_iff.1 hl').1
    refine ⟨_, run_beginRound hl' (by rw [hR]), ?_⟩
    obtain ⟨U, hU⟩ : ∃ U, W'.putObj (B + 1) (.loop { R .ready none with state := .busy }) = U := ⟨_, rfl⟩
    have ul : U.heap[B + 1]? = some (.loop { R .ready none with state := .busy }) := by subst hU; exact World.putObj_heap_same hlt
    have ud : U.heap[B]? = some (.deferred (some [])) := by subst hU; exact (World.putObj_heap_other (by omega)).trans hd'
    have uc : CellsIn B (mk x) W U := by subst hU; exact (CellsIn.of hk).trans (CellsIn.put _ hl' rfl)
    have ua : Ax pre x a' U := by subst hU; exact (hAx pre x a').putObj (s := ()) _ hax (by omega) hl' rfl
    rw [hU]
    refine wpIn_mono (hbody _ pre x a' U (by omega) ⟨_, ul⟩ ua (Nat.le_trans hmz uc.size) (by omega) hlen) ?_
    -- the round's end
    have fin : ∀ (j : Option Code) (Z : World), Kept (Outer B (mk x)) U Z → ∃ Z', (Instr.endRound (B + 1) j).run P Z = .ok (.bool j.isNone) Z' ∧ Z'.heap[B + 1]? = some (.loop (R (if j.isNone then .ready else .done) j)) ∧ Z'.heap[B]? = some (.deferred (some [])) ∧ CellsIn B (mk x) Z Z' ∧
        (∀ {β : Type} {I : β → World → Prop} {s : β}, OwnFrom B I → I s Z → I s Z') := fun j Z hz => by
      have zl := hz.mid (by omega) (by omega) ul
      have zd := hz.mid (Nat.le_refl _) (by omega) ud
      have hrun := run_endRound (P := P) j zl
      rw [hR] at hrun
      refine ⟨_, hrun, ?_, ?_, CellsIn.put _ zl rfl, fun h hs => h.putObj _ hs (by omega) zl rfl⟩
      · rw [hR]; exact World.putObj_heap_same (Array.getElem?_eq_some_iff.1 zl).1
      · exact (World.putObj_heap_other (by omega)).trans zd
    rintro e a3 Z hp
    cases e with
    | normal =>
      obtain ⟨hz, hzi⟩ := hp
      obtain ⟨Z', h1, h2, h3, h4, h5⟩ := fin none Z hz
      exact ⟨_, Z', h1, .inl ⟨rfl, ⟨h5 hI hzi, h2, h3⟩, (uc.trans (CellsIn.of hz)).trans h4⟩⟩
    | ret =>
      obtain ⟨hz, hzi⟩ := hp
      obtain ⟨Z', h1, h2, h3, h4, h5⟩ := fin (some .ret) Z hz
      exact ⟨_, Z', h1, .inr ⟨rfl, .ret, h5 (hIx _) hzi, h2, h3⟩⟩
    | exit id =>
      obtain ⟨hz, hzi⟩ := hp
      obtain ⟨Z', h1, h2, h3, h4, h5⟩ := fin (some (.exit id)) Z hz
      exact ⟨_, Z', h1, .inr ⟨rfl, .exit id, h5 (hIx _) hzi, h2, h3⟩⟩
    | goto t =>
      obtain ⟨hz, hzi⟩ := hp
      obtain ⟨Z', h1, h2, h3, h4, h5⟩ := fin (some (.goto t)) Z hz
      exact ⟨_, Z', h1, .inr ⟨rfl, .goto t, h5 (hIx _) hzi, h2, h3⟩⟩
    | panic ch => exact hp.elim
    | outgrown => exact hp.elim
  · rintro e Z ⟨⟨v, rfl⟩, ⟨xs, hs, hi, hl, hd⟩ | ⟨pre, hs, c, hi, hl, hd⟩⟩
    · have hrun := run_endLoop (P := P) hl (by rw [hR]; simp)
      rw [hR] at hrun
      exact ⟨none, _, hrun, hdone B xs _ (Nat.le_refl _) (hS.putObj _ hs (by omega) hl rfl) (hI.putObj _ hi (by omega) hl rfl) ((World.putObj_heap_other (by omega)).trans hd)⟩
    · have hrun := run_endLoop (P := P) hl (by rw [hR]; simp)
      rw [hR] at hrun
      exact ⟨some c, _, hrun, hstop B c pre _ (Nat.le_refl _) hs ((hIx c).putObj _ hi (by omega) hl rfl) ((World.putObj_heap_other (by omega)).trans hd)⟩
end Go.Proofs.Ytooalgnppnmeaaa
