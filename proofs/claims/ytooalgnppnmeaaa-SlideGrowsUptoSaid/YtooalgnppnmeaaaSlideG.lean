/- More roots keep no less, as plain data. -/
import Derived.Test.YtooalgnppnmeaaaSlideQ
namespace Go.Proofs.Ytooalgnppnmeaaa

section
variable {ns : List Nd} {is roots : List Int}
theorem okRoots_append (x : Int) (h : okRoots ns roots = true) (hx : inR ns x = true) : okRoots ns (roots ++ [x]) = true := by
  unfold okRoots at *
  rw [List.all_append, h]
  simp [hx]
theorem keep_more (x : Int) {y : Int} (hy : 0 ≤ y ∧ y < ns.length) (h : sees (keepOf ns is roots) y = true) : sees (keepOf ns is (roots ++ [x])) y = true := by
  obtain ⟨f, hf, hfy⟩ := (keepOf_sees hy).1 h
  exact (keepOf_sees hy).2 ⟨f, by rw [List.map_append]; exact List.mem_append_left _ hf, hfy⟩
theorem keep_root {r : Int} (hi : IsL ns is) (hr : r ∈ roots) (hri : inR ns r = true) : sees (keepOf ns is roots) (at0 is r) = true :=
  (keepOf_sees (inR_iff.1 (hi.inR hri))).2 ⟨_, List.mem_map.2 ⟨r, hr, rfl⟩, .refl _⟩
theorem okRoots_is (hi : IsL ns is) (h : okRoots ns roots = true) : okRoots ns (roots.map (at0 is)) = true := by
  unfold okRoots
  rw [List.all_eq_true]
  intro x hx
  obtain ⟨r, hr, rfl⟩ := List.mem_map.1 hx
  exact hi.inR (List.all_eq_true.1 h r hr)
theorem keepOf_is (hi : IsL ns is) (h : okRoots ns roots = true) : keepOf ns is (roots.map (at0 is)) = keepOf ns is roots := by
  have e : (roots.map (at0 is)).map (at0 is) = roots.map (at0 is) := by
    rw [List.map_map]
    apply List.map_congr_left
    intro r hr
    have h1 := hi.is (List.all_eq_true.1 h r hr)
    exact ((hi.is h1.inR).unique h1.self)
  unfold keepOf KeptP
  rw [e]
theorem liveOf_is (hi : IsL ns is) (h : okRoots ns roots = true) : liveOf ns is (roots.map (at0 is)) = liveOf ns is roots := by
  unfold liveOf
  rw [if_pos (okRoots_is hi h), if_pos h, keepOf_is hi h]
end
/-- Which are in the first k of a list. -/
def inUp (b : List Int) (n k : Nat) : List Bool := (List.range n).map fun (x : Nat) => decide ((x : Int) ∈ b.take k)
@[simp] theorem inUp_length (b : List Int) (n k : Nat) : (inUp b n k).length = n := by simp [inUp]
theorem inUp_zero (b : List Int) (n : Nat) : inUp b n 0 = List.replicate n false := by
  unfold inUp
  apply List.ext_getElem <;> simp
theorem inUp_sees {b : List Int} {n k : Nat} {x : Int} (hx : 0 ≤ x ∧ x < n) : sees (inUp b n k) x = decide (x ∈ b.take k) := by
  unfold sees inUp
  rw [List.getD_eq_getElem?_getD, List.getElem?_map, List.getElem?_range (by omega)]
  simp only [Option.map_some, Option.getD_some, Int.toNat_of_nonneg hx.1]
theorem inUp_set {b : List Int} {n k : Nat} {x : Int} (hb : b[k]? = some x) (hx : 0 ≤ x ∧ x < n) : (inUp b n k).set x.toNat true = inUp b n (k + 1) := by
  have ht : b.take (k + 1) = b.take k ++ [x] := by rw [List.take_add_one, hb]; rfl
  apply List.ext_getElem
  · simp
  · intro i h1 h2
    rw [List.getElem_set]
    unfold inUp
    simp only [List.getElem_map, List.getElem_range, ht]
    by_cases hi : x.toNat = i
    · rw [if_pos hi]
      have : (i : Int) = x := by omega
      rw [this]
      simp
    · rw [if_neg hi]
      have : (i : Int) ≠ x := by omega
      simp [this]
end Go.Proofs.Ytooalgnppnmeaaa
