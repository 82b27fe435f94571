/- A stack that is emptied: what has been seen is what is reached. Plain lists. -/
import Derived.Test.YtooalgnppnmeaaaGraph
namespace Go.Proofs.Ytooalgnppnmeaaa

/-- y is reached from x. -/
inductive RT (next : Int → List Int) : Int → Int → Prop
  | refl (a : Int) : RT next a a
  | step {x d a : Int} : d ∈ next x → RT next d a → RT next x a
theorem RT.trans {next : Int → List Int} {x y z : Int} (h : RT next x y) (k : RT next y z) : RT next x z := by
  induction h with
  | refl => exact k
  | step h1 _ ih => exact .step h1 (ih k)
theorem RT.closed {next : Int → List Int} {P : Int → Prop} (hP : ∀ x d, P x → d ∈ next x → P d) {x a : Int} (h : RT next x a) (hx : P x) : P a := by
  induction h with
  | refl => exact hx
  | step h1 _ ih => exact ih (hP _ _ hx h1)

def sees (seen : List Bool) (x : Int) : Bool := seen.getD x.toNat false

/-- What holds while the stack is emptied: n nodes, what is right beneath each, where one began. -/
structure Dfs (n : Nat) (next : Int → List Int) (start : List Int) (seen : List Bool) (todo : List Int) : Prop where
  len : seen.length = n
  ok : ∀ x ∈ todo, (0 ≤ x ∧ x < n) ∧ ∃ f ∈ start, RT next f x
  so : ∀ x : Int, (0 ≤ x ∧ x < n) → sees seen x = true → ∃ f ∈ start, RT next f x
  cl : ∀ x : Int, (0 ≤ x ∧ x < n) → sees seen x = true → ∀ d ∈ next x, d ∈ todo ∨ sees seen d = true
  st : ∀ f ∈ start, f ∈ todo ∨ sees seen f = true

/-- How many rounds are to come. -/
def dfsMu (seen : List Bool) (todo : List Int) : Nat := 8 * seen.count false + todo.length

theorem sees_set {seen : List Bool} {x y : Int} (hx : 0 ≤ x ∧ x < seen.length) (hy : 0 ≤ y) : sees (seen.set x.toNat true) y = true ↔ y = x ∨ sees seen y = true := by
  unfold sees
  by_cases h : y = x
  · subst h
    simp [List.getD, show y.toNat < seen.length by omega]
  · have : x.toNat ≠ y.toNat := by omega
    simp [List.getD, this, h]
theorem count_set {seen : List Bool} {i : Nat} (h : seen[i]? = some false) : (seen.set i true).count false + 1 = seen.count false := by
  induction seen generalizing i with
  | nil => simp at h
  | cons b l ih =>
    cases i with
    | zero =>
      simp at h
      subst h
      simp [List.set_cons_zero]
    | succ i =>
      have := ih (i := i) (by simpa using h)
      simp only [List.set_cons_succ, List.count_cons]
      omega
theorem Dfs.begin {n : Nat} {next : Int → List Int} {start : List Int} (h : ∀ f ∈ start, 0 ≤ f ∧ f < n) : Dfs n next start (List.replicate n false) start := by
  have no : ∀ x : Int, sees (List.replicate n false) x = false := by
    intro x
    simp [sees, List.getD, List.getElem?_replicate]
    split <;> rfl
  exact ⟨by simp, fun x hx => ⟨h x hx, x, hx, .refl x⟩, fun x _ hs => (by rw [no] at hs; cases hs), fun x _ hs => (by rw [no] at hs; cases hs), fun f hf => .inl hf⟩
theorem Dfs.popSeen {n : Nat} {next : Int → List Int} {start todo : List Int} {seen : List Bool} {x : Int} (h : Dfs n next start seen (todo ++ [x])) (hs : sees seen x = true) : Dfs n next start seen todo := by
  refine ⟨h.len, fun y hy => h.ok y (List.mem_append_left _ hy), h.so, fun y hy h1 d hd => ?_, fun f hf => ?_⟩
  · rcases h.cl y hy h1 d hd with h2 | h2
    · rcases List.mem_append.1 h2 with h3 | h3
      · exact .inl h3
      · have : d = x := by simpa using h3
        exact .inr (this ▸ hs)
    · exact .inr h2
  · rcases h.st f hf with h2 | h2
    · rcases List.mem_append.1 h2 with h3 | h3
      · exact .inl h3
      · have : f = x := by simpa using h3
        exact .inr (this ▸ hs)
    · exact .inr h2
theorem Dfs.popNew {n : Nat} {next : Int → List Int} {start todo more : List Int} {seen : List Bool} {x : Int} (h : Dfs n next start seen (todo ++ [x])) (hm : ∀ d, d ∈ more ↔ d ∈ next x) (hr : ∀ d ∈ next x, 0 ≤ d ∧ d < n) : Dfs n next start (seen.set x.toNat true) (todo ++ more) := by
  obtain ⟨hx, f0, hf0, hfx⟩ := h.ok x (by simp)
  have hxl : 0 ≤ x ∧ x < seen.length := by rw [h.len]; exact hx
  refine ⟨by simpa using h.len, fun y hy => ?_, fun y hy h1 => ?_, fun y hy h1 d hd => ?_, fun f hf => ?_⟩
  · rcases List.mem_append.1 hy with h2 | h2
    · exact h.ok y (List.mem_append_left _ h2)
    · have := (hm y).1 h2
      exact ⟨hr y this, f0, hf0, hfx.trans (.step this (.refl y))⟩
  · rcases (sees_set hxl hy.1).1 h1 with rfl | h2
    · exact ⟨f0, hf0, hfx⟩
    · exact h.so y hy h2
  · rcases (sees_set hxl hy.1).1 h1 with rfl | h2
    · exact .inl (List.mem_append_right _ ((hm d).2 hd))
    · rcases h.cl y hy h2 d hd with h3 | h3
      · rcases List.mem_append.1 h3 with h4 | h4
        · exact .inl (List.mem_append_left _ h4)
        · have : d = x := by simpa using h4
          exact .inr ((sees_set hxl (by omega)).2 (.inl this))
      · by_cases hd0 : 0 ≤ d
        · exact .inr ((sees_set hxl hd0).2 (.inr h3))
        · by_cases hd1 : d.toNat = x.toNat
          · refine .inr ?_
            unfold sees
            rw [hd1]
            simp [List.getD, show x.toNat < seen.length by omega]
          · refine .inr ?_
            unfold sees at h3 ⊢
            simpa [List.getD, List.getElem?_set, show x.toNat ≠ d.toNat by omega] using h3
  · rcases h.st f hf with h2 | h2
    · rcases List.mem_append.1 h2 with h3 | h3
      · exact .inl (List.mem_append_left _ h3)
      · have : f = x := by simpa using h3
        subst this
        exact .inr ((sees_set hxl hx.1).2 (.inl rfl))
    · by_cases hd1 : f.toNat = x.toNat
      · refine .inr ?_
        unfold sees
        rw [hd1]
        simp [List.getD, show x.toNat < seen.length by omega]
      · refine .inr ?_
        unfold sees at h2 ⊢
        simpa [List.getD, List.getElem?_set, show x.toNat ≠ f.toNat by omega] using h2
theorem Dfs.done {n : Nat} {next : Int → List Int} {start : List Int} {seen : List Bool} (h : Dfs n next start seen []) (hs : ∀ f ∈ start, 0 ≤ f ∧ f < n) (hr : ∀ x d : Int, (0 ≤ x ∧ x < n) → d ∈ next x → 0 ≤ d ∧ d < n) (x : Int) (hx : 0 ≤ x ∧ x < n) : sees seen x = true ↔ ∃ f ∈ start, RT next f x := by
  refine ⟨h.so x hx, ?_⟩
  rintro ⟨f, hf, hfx⟩
  have := hfx.closed (P := fun y => (0 ≤ y ∧ y < n) ∧ sees seen y = true) (fun y d ⟨h1, h2⟩ hd => ⟨hr y d h1 hd, by
    rcases h.cl y h1 h2 d hd with h3 | h3
    · simp at h3
    · exact h3⟩) ⟨hs f hf, by
      rcases h.st f hf with h3 | h3
      · simp at h3
      · exact h3⟩
  exact this.2
theorem dfsMu_todo (seen : List Bool) (todo : List Int) : todo.length ≤ dfsMu seen todo := by unfold dfsMu; omega
theorem dfsMu_begin (n m : Nat) (l : List Int) (h : l.length ≤ m) : dfsMu (List.replicate n false) l ≤ 8 * n + m := by simp [dfsMu]; omega
theorem dfsMu_seen {seen : List Bool} {todo : List Int} {x : Int} : dfsMu seen todo < dfsMu seen (todo ++ [x]) := by simp [dfsMu]
theorem dfsMu_new {seen : List Bool} {todo more : List Int} {x : Int} (hx : 0 ≤ x ∧ x < seen.length) (hs : sees seen x = false) (hm : more.length ≤ 7) : dfsMu (seen.set x.toNat true) (todo ++ more) < dfsMu seen (todo ++ [x]) := by
  have h0 : seen[x.toNat]? = some false := by
    unfold sees at hs
    rw [List.getElem?_eq_getElem (show x.toNat < seen.length by omega)]
    simp [List.getD, List.getElem?_eq_getElem (show x.toNat < seen.length by omega)] at hs
    rw [hs]
  have := count_set h0
  simp only [dfsMu, List.length_append, List.length_cons, List.length_nil]
  omega

/-- What is right beneath a node. -/
def nextN (ns : List Nd) (x : Int) : List Int := match ndAt ns x with | some n => n.down | none => []
theorem reach_iff {ns : List Nd} {x a : Int} : Reach ns x a ↔ RT (nextN ns) x a := by
  constructor
  · intro h
    induction h with
    | refl => exact .refl _
    | step h1 h2 _ ih => exact .step (by simp [nextN, h1, h2]) ih
  · intro h
    induction h with
    | refl => exact .refl _
    | step h1 _ ih =>
      unfold nextN at h1
      split at h1
      · rename_i n hn
        exact .step hn h1 ih
      · simp at h1
theorem nextN_in {ns : List Nd} (hs : Sane ns) (x d : Int) (h : d ∈ nextN ns x) : 0 ≤ d ∧ d < ns.length := by
  unfold nextN at h
  split at h
  · rename_i n hn
    exact inR_iff.1 (hs.inn n (ndAt_mem hn) d h)
  · simp at h
end Go.Proofs.Ytooalgnppnmeaaa
