/- How slices of structs that came in are read. -/
import Derived.Test.YtooalgnppnmeaaaRow0
import Derived.Deep.Slices
import Derived.Deep.Fields
import Derived.ChangeSame
namespace Go.Proofs.Ytooalgnppnmeaaa
open Go.ChangeShapes Go.WideShapes Go.ChangeAt Go.RowKit Go.Deep

theorem addr_add (b o n : Nat) : (⟨b, o, none⟩ : Addr).add n = ⟨b, o + n, none⟩ := by
  unfold Addr.add
  by_cases h : n = 0
  · subst h; rfl
  · rw [if_neg h]
theorem list_of {α : Type} (n : Nat) (P : Nat → α → Prop) (h : ∀ i, i < n → ∃ x, P i x) : ∃ l : List α, l.length = n ∧ ∀ i x, l[i]? = some x → P i x := by
  induction n with
  | zero => exact ⟨[], rfl, by simp⟩
  | succ n ih =>
    obtain ⟨l, hl, hp⟩ := ih (fun i hi => h i (by omega))
    obtain ⟨x, hx⟩ := h n (by omega)
    refine ⟨l ++ [x], by simp [hl], fun i y hy => ?_⟩
    rw [List.getElem?_append] at hy
    split at hy
    · exact hp i y hy
    · have h1 := (List.getElem?_eq_some_iff.1 hy).1
      have h2 : i = n := by simp at h1; omega
      have h3 : y = x := by
        have := List.mem_of_getElem? hy
        simpa using this
      rw [h2, h3]; exact hx
theorem flatten_get {css : List (List Value)} {C : Nat} (hC : ∀ (i : Nat) (cs : List Value), css[i]? = some cs → cs.length = C) {i k : Nat} {cs : List Value} (hi : css[i]? = some cs) (hk : k < C) : css.flatten[i * C + k]? = cs[k]? := by
  induction css generalizing i with
  | nil => simp at hi
  | cons c css ih =>
    have hc : c.length = C := hC 0 c rfl
    rw [List.flatten_cons]
    cases i with
    | zero =>
      simp at hi
      subst hi
      rw [List.getElem?_append_left (by omega)]
      simp
    | succ i =>
      rw [List.getElem?_append_right (by rw [hc, Nat.succ_mul]; omega)]
      rw [show (i + 1) * C + k - c.length = i * C + k by rw [hc, Nat.succ_mul]; omega]
      exact ih (fun j => hC (j + 1)) (i := i) (by simpa using hi)
theorem flatten_len {css : List (List Value)} {C : Nat} (hC : ∀ (i : Nat) (cs : List Value), css[i]? = some cs → cs.length = C) : css.flatten.length = css.length * C := by
  induction css with
  | nil => simp
  | cons c css ih =>
    have hc : c.length = C := hC 0 c rfl
    rw [List.flatten_cons, List.length_append, hc, ih (fun j => hC (j + 1)), List.length_cons, Nat.succ_mul]
    omega

section
variable {H : Type} {enc : TypeId × Value → H} {w : World}
/-- A slice that came in: its cells, element by element. -/
theorem slice_in {t e : TypeId} {C : Nat} {a0 : Option Addr} {len0 cap0 : Nat} {d : DataW H} {p : List MemPlace} (ht : Try.prog.underlying t = some (.slice e)) (hC : Try.prog.cellsOf e = C) (hC0 : 0 < C)
    (h : DataW.Trod enc Try.prog w 0 (fun _ => true) true t (.slice a0 len0 cap0) d p) :
    ∃ css : List (List Value), css.length = len0 ∧ (∀ (i : Nat) (cs : List Value), css[i]? = some cs → cs.length = C) ∧ RowR w C (fun _ => True) (.slice a0 len0 cap0) len0 css.flatten ∧
      (∀ (i : Nat) (cs : List Value), css[i]? = some cs → ∃ n y, DataW.trod enc Try.prog w 0 (fun _ => true) true n e cs = some y) ∧ len0 ≤ maxLen ∧ len0 ≤ cap0 := by
  obtain ⟨fuel, hf⟩ := h
  rcases open_slice ht hf with ⟨hcs, _⟩ | ⟨a, l, c, m, n, D, Pl, hcs, _, hl, hm, hmm, _, hx⟩
  · simp [Value.cells] at hcs
    obtain ⟨rfl, rfl, rfl⟩ := hcs
    exact ⟨[], rfl, by simp, RowR.nil _ _ _, by simp, by simp, Nat.le_refl _⟩
  · simp [Value.cells] at hcs
    obtain ⟨rfl, rfl, rfl⟩ := hcs
    have hmc : m = cap0 := by simpa using hmm
    rw [hC] at hx
    obtain ⟨css, hlen, hp⟩ := list_of len0 (fun i (cs : List Value) => w.cells? 0 (a.add (i * C)) C = some cs ∧ ∃ n y, DataW.trod enc Try.prog w 0 (fun _ => true) true n e cs = some y) (fun i hi => by
      obtain ⟨cs, h1, h2⟩ := hx i (by omega)
      exact ⟨cs, h1, n, _, h2⟩)
    have hCs : ∀ (i : Nat) (cs : List Value), css[i]? = some cs → cs.length = C := fun i cs hi => (World.cells?_some (hp i cs hi).1).2.1
    refine ⟨css, hlen, hCs, ⟨by rw [flatten_len hCs, hlen], _, _, rfl, hl, fun hpos => ?_⟩, fun i cs hi => (hp i cs hi).2, by omega, hl⟩
    obtain ⟨b, off, spot⟩ := a
    have h0 : css[0]? = some (css[0]'(by omega)) := List.getElem?_eq_getElem (by omega)
    have hc0 := (World.cells?_some (hp 0 _ h0).1).2.2 0 (by omega)
    have hl0 := hCs 0 _ h0
    rw [List.getElem?_eq_getElem (by omega)] at hc0
    simp only [Nat.zero_mul] at hc0
    have hspot : spot = none := by simpa [Addr.add] using World.cell?_spot hc0
    subst hspot
    refine ⟨b, off, rfl, trivial, World.block_lt_of_cell? w _ (by simpa [Addr.add] using hc0), fun j u hj => ?_⟩
    have hjl := (List.getElem?_eq_some_iff.1 hj).1
    rw [flatten_len hCs, hlen] at hjl
    have hq : j / C < len0 := by
      rw [Nat.div_lt_iff_lt_mul hC0]; exact hjl
    have hr : j % C < C := Nat.mod_lt _ hC0
    have hjj : j / C * C + j % C = j := by rw [Nat.mul_comm]; exact Nat.div_add_mod j C
    have hi : css[j / C]? = some (css[j / C]'(by omega)) := List.getElem?_eq_getElem (by omega)
    have hg := flatten_get hCs hi hr
    rw [hjj, hj] at hg
    have hc := (World.cells?_some (hp (j / C) _ hi).1).2.2 (j % C) hr
    rw [← hg] at hc
    have hadd : ((⟨b, off, none⟩ : Addr).add (j / C * C)).add (j % C) = ⟨b, off + j, none⟩ := by
      rw [addr_add, addr_add, Nat.add_assoc, hjj]
    rw [hadd] at hc
    exact hc
/-- A struct of one-cell fields. -/
theorem struct_in {e : TypeId} {fs : Array Field} {n : Nat} {cs : List Value} {y : DataW H × List MemPlace} (he : Try.prog.underlying e = some (.struct fs)) (hone : oneCellFields Try.prog fs = true) (hC : Try.prog.cellsOf e = fs.size)
    (h : DataW.trod enc Try.prog w 0 (fun _ => true) true n e cs = some y) : ∀ (j : Nat) (f : Field), fs[j]? = some f → ∃ v m z, cs[j]? = some v ∧ DataW.trod enc Try.prog w 0 (fun _ => true) true m f.type [v] = some z := by
  obtain ⟨ys, n', _, _, hlen, hyl, hf⟩ := DataW.trod_struct he h
  intro j f hj
  obtain ⟨ho, hk⟩ := hone_of hone j f hj
  have hjl : j < fs.size := (Array.getElem?_eq_some_iff.1 hj).1
  have h1 := hf j f hj
  rw [ho, hk] at h1
  have hjc : j < cs.length := by omega
  have e1 : (cs.drop j).take 1 = [cs[j]] := by
    rw [List.drop_eq_getElem_cons hjc]; rfl
  rw [e1] at h1
  exact ⟨cs[j], n', ys[j]'(by omega), List.getElem?_eq_getElem hjc, by rw [h1]; exact List.getElem?_eq_getElem (by omega)⟩
theorem int_in {n : Nat} {v : Value} {z : DataW H × List MemPlace} (h : DataW.trod enc Try.prog w 0 (fun _ => true) true n 3 [v] = some z) : ∃ x, v = .int .i64 x ∧ I64 x := by
  obtain ⟨x, e, _, hw⟩ := DataW.trod_int Try.underlying3 h
  exact ⟨x, by simpa using e, i64_of_wf hw⟩
theorem bool_in {n : Nat} {v : Value} {z : DataW H × List MemPlace} (h : DataW.trod enc Try.prog w 0 (fun _ => true) true n 4 [v] = some z) : ∃ x, v = .bool x := by
  obtain ⟨x, e, _⟩ := DataW.trod_bool Try.underlying4 h
  exact ⟨x, by simpa using e⟩
end
end Go.Proofs.Ytooalgnppnmeaaa
