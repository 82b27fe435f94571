/- Graphs of nodes, as plain data: reaching, heights. -/
import Derived.Test.YtooalgnppnmeaaaNd
namespace Go.Proofs.Ytooalgnppnmeaaa

/-- x is a, or a stands beneath x. -/
inductive Reach (ns : List Nd) : Int → Int → Prop
  | refl (a : Int) : Reach ns a a
  | step {x d a : Int} {n : Nd} : ndAt ns x = some n → d ∈ n.down → Reach ns d a → Reach ns x a

theorem Reach.trans {ns : List Nd} {x y z : Int} (h : Reach ns x y) (k : Reach ns y z) : Reach ns x z := by
  induction h with
  | refl => exact k
  | step h1 h2 _ ih => exact .step h1 h2 (ih k)
theorem Reach.one {ns : List Nd} {x d : Int} {n : Nd} (h1 : ndAt ns x = some n) (h2 : d ∈ n.down) : Reach ns x d := .step h1 h2 (.refl d)
/-- What is closed under 'right beneath' holds of all that is reached. -/
theorem Reach.closed {ns : List Nd} {P : Int → Prop} (hP : ∀ x n d, P x → ndAt ns x = some n → d ∈ n.down → P d) {x a : Int} (h : Reach ns x a) (hx : P x) : P a := by
  induction h with
  | refl => exact hx
  | step h1 h2 _ ih => exact ih (hP _ _ _ hx h1 h2)
theorem Reach.inR {ns : List Nd} (hs : Sane ns) {x a : Int} (h : Reach ns x a) (hx : inR ns x = true) : inR ns a = true :=
  h.closed (P := fun y => Ytooalgnppnmeaaa.inR ns y = true) (fun _ n d _ h1 h2 => hs.inn n (ndAt_mem h1) d h2) hx

theorem ndAt_append {ns : List Nd} {a : Int} {n m : Nd} : ndAt (ns ++ [m]) a = some n → ndAt ns a = some n ∨ (a = ns.length ∧ n = m) := by
  intro h
  unfold ndAt at h ⊢
  split at h
  · rename_i h0
    rw [List.getElem?_append] at h
    split at h
    · exact .inl (by rw [if_pos h0]; exact h)
    · have hm : n = m := by
        have := List.mem_of_getElem? h
        simpa using this
      have := (List.getElem?_eq_some_iff.1 h).1
      simp at this
      exact .inr ⟨by omega, hm⟩
  · cases h
theorem ndAt_set {ns : List Nd} {a : Int} {n : Nd} {i : Nat} {m : Nd} (h : ndAt (ns.set i m) a = some n) : (a = i ∧ n = m) ∨ (a ≠ i ∧ ndAt ns a = some n) := by
  unfold ndAt at h ⊢
  split at h
  · rename_i h0
    rw [List.getElem?_set] at h
    split at h
    · rename_i hi
      split at h
      · exact .inl ⟨by omega, by simpa using h.symm⟩
      · cases h
    · rename_i hi
      exact .inr ⟨by omega, by rw [if_pos h0]; exact h⟩
  · cases h
theorem sum_ge (r : Int → Nat) (l : List Int) : ∀ x ∈ l, r x ≤ (l.map r).sum := by
  induction l with
  | nil => simp
  | cons a l ih =>
    intro x hx
    simp only [List.map_cons, List.sum_cons]
    rcases List.mem_cons.1 hx with rfl | h
    · omega
    · have := ih x h; omega

/-- A new application over what is there. -/
theorem Acyc.make {ns : List Nd} (h : Acyc ns) (hs : Sane ns) {m : Nd} (hm : ∀ d ∈ m.down, inR ns d = true) : Acyc (ns ++ [m]) := by
  obtain ⟨r, hr⟩ := h
  refine ⟨fun a => if a = ns.length then (m.down.map r).sum + 1 else r a, fun a n ha d hd => ?_⟩
  have ne : ∀ {d}, inR ns d = true → d ≠ ns.length := fun h => by have := inR_iff.1 h; omega
  rcases ndAt_append ha with ha | ⟨rfl, rfl⟩
  · have h1 := ndAt_inR ha
    have h2 := hs.inn n (ndAt_mem ha) d hd
    dsimp only
    rw [if_neg (ne h2), if_neg (ne h1.1)]
    exact hr a n ha d hd
  · dsimp only
    rw [if_neg (ne (hm d hd)), if_pos rfl]
    have := sum_ge r n.down d hd
    omega
theorem Sane.make {ns : List Nd} (hs : Sane ns) {m : Nd} (h6 : m.args.length ≤ 6) (hm : ∀ d ∈ m.down, inR ns d = true) (hp : m.pts = true → m.args = []) : Sane (ns ++ [m]) := by
  have up : ∀ d, inR ns d = true → inR (ns ++ [m]) d = true := fun d h => by
    have := inR_iff.1 h
    exact inR_iff.2 ⟨this.1, by simp; omega⟩
  refine ⟨fun n hn => ?_, fun n hn d hd => ?_, fun n hn => ?_⟩
  · rcases List.mem_append.1 hn with h | h
    · exact hs.few n h
    · have : n = m := by simpa using h
      subst this; exact h6
  · rcases List.mem_append.1 hn with h | h
    · exact up d (hs.inn n h d hd)
    · have : n = m := by simpa using h
      subst this; exact up d (hm d hd)
  · rcases List.mem_append.1 hn with h | h
    · exact hs.ptr n h
    · have : n = m := by simpa using h
      subst this; exact hp

theorem inR_set (ns : List Nd) (i : Nat) (m : Nd) (a : Int) : inR (ns.set i m) a = inR ns a := by simp [inR]
theorem Sane.set {ns : List Nd} (hs : Sane ns) {i : Nat} {m : Nd} (h6 : m.args.length ≤ 6) (hm : ∀ d ∈ m.down, inR ns d = true) (hp : m.pts = true → m.args = []) : Sane (ns.set i m) := by
  refine ⟨fun n hn => ?_, fun n hn d hd => ?_, fun n hn => ?_⟩
  · rcases List.mem_or_eq_of_mem_set hn with h | rfl
    · exact hs.few n h
    · exact h6
  · rw [inR_set]
    rcases List.mem_or_eq_of_mem_set hn with h | rfl
    · exact hs.inn n h d hd
    · exact hm d hd
  · rcases List.mem_or_eq_of_mem_set hn with h | rfl
    · exact hs.ptr n h
    · exact hp
/-- A node becomes an indirection to what it isn't beneath. -/
theorem Acyc.point {ns : List Nd} (h : Acyc ns) {i : Nat} {to : Int} {m : Nd} (hd : m.down = [to]) (hn : ¬ Reach ns to i) : Acyc (ns.set i m) := by
  classical
  obtain ⟨r, hr⟩ := h
  refine ⟨fun a => if Reach ns a i then r a + (r to + 1) else r a, fun a n ha d hdn => ?_⟩
  rcases ndAt_set ha with ⟨rfl, rfl⟩ | ⟨hne, ha⟩
  · rw [hd] at hdn
    have : d = to := by simpa using hdn
    subst this
    dsimp only
    rw [if_neg hn, if_pos (.refl _)]
    omega
  · have h1 := hr a n ha d hdn
    dsimp only
    by_cases h2 : Reach ns d i
    · rw [if_pos h2, if_pos (.step ha hdn h2)]; omega
    · rw [if_neg h2]
      split <;> omega
/-- A mark changes nothing here. -/
theorem Acyc.same {ns ms : List Nd} (h : Acyc ns) (hd : ∀ a n, ndAt ms a = some n → ∃ n', ndAt ns a = some n' ∧ n'.down = n.down) : Acyc ms := by
  obtain ⟨r, hr⟩ := h
  refine ⟨r, fun a n ha d hdn => ?_⟩
  obtain ⟨n', h1, h2⟩ := hd a n ha
  exact hr a n' h1 d (h2 ▸ hdn)
theorem Acyc.nil : Acyc [] := ⟨fun _ => 0, fun a n h => by simp [ndAt] at h⟩
theorem Sane.nil : Sane [] := ⟨by simp, by simp, by simp⟩

/-- Which application a node is. -/
inductive Is (ns : List Nd) : Int → Int → Prop
  | app {a : Int} {n : Nd} : ndAt ns a = some n → n.pts = false → Is ns a a
  | ptr {a b : Int} {n : Nd} : ndAt ns a = some n → n.pts = true → Is ns n.to b → Is ns a b
theorem Is.unique {ns : List Nd} {a b c : Int} (h : Is ns a b) (k : Is ns a c) : b = c := by
  induction h with
  | app h1 h2 =>
    cases k with
    | app _ _ => rfl
    | ptr k1 k2 _ => rw [h1] at k1; injection k1 with k1; subst k1; rw [h2] at k2; cases k2
  | ptr h1 h2 _ ih =>
    cases k with
    | app k1 k2 => rw [h1] at k1; injection k1 with k1; subst k1; rw [h2] at k2; cases k2
    | ptr k1 k2 k3 => rw [h1] at k1; injection k1 with k1; subst k1; exact ih k3
theorem Is.end_ {ns : List Nd} {a b : Int} (h : Is ns a b) : ∃ n, ndAt ns b = some n ∧ n.pts = false := by
  induction h with
  | app h1 h2 => exact ⟨_, h1, h2⟩
  | ptr _ _ _ ih => exact ih
theorem Is.self {ns : List Nd} {a b : Int} (h : Is ns a b) : Is ns b b := by
  obtain ⟨n, h1, h2⟩ := h.end_
  exact .app h1 h2
theorem Is.reach {ns : List Nd} {a b : Int} (h : Is ns a b) : Reach ns a b := by
  induction h with
  | app => exact .refl _
  | ptr h1 h2 _ ih => exact .step h1 (by simp [Nd.down, h2]) ih
theorem Is.exists_ {ns : List Nd} (hs : Sane ns) (h : Acyc ns) (a : Int) (ha : inR ns a = true) : ∃ b, Is ns a b := by
  obtain ⟨r, hr⟩ := h
  generalize hk : r a = k
  induction k using Nat.strongRecOn generalizing a with
  | ind k ih =>
    obtain ⟨n, hn, _⟩ := ndAt_of ha
    cases hp : n.pts with
    | false => exact ⟨a, .app hn hp⟩
    | true =>
      have hd : n.to ∈ n.down := by simp [Nd.down, hp]
      obtain ⟨b, hb⟩ := ih (r n.to) (by have := hr a n hn _ hd; omega) n.to (hs.inn n (ndAt_mem hn) _ hd) rfl
      exact ⟨b, .ptr hn hp hb⟩
end Go.Proofs.Ytooalgnppnmeaaa
