/- Raw calls that came in. -/
import Derived.Test.YtooalgnppnmeaaaRow1
import Derived.Test.YtooalgnppnmeaaaL11c
namespace Go.Proofs.Ytooalgnppnmeaaa
open Go.ChangeShapes Go.WideShapes Go.ChangeAt Go.RowKit Go.Deep
theorem cellsRaw : Try.prog.cellsOf 46 = 4 := by kernel_rfl
theorem four_cells {cs : List Value} {a b c d : Value} (hl : cs.length = 4) (h0 : cs[0]? = some a) (h1 : cs[1]? = some b) (h2 : cs[2]? = some c) (h3 : cs[3]? = some d) : cs = [a, b, c, d] := by
  match cs, hl with
  | [x0, x1, x2, x3], _ => simp_all
section
variable {H : Type} {enc : TypeId × Value → H} {w : World}
theorem rw_in {n : Nat} {cs : List Value} {y : DataW H × List MemPlace} (hl : cs.length = 4) (h : DataW.trod enc Try.prog w 0 (fun _ => true) true n 46 cs = some y) : ∃ x : Rw, cs = rwCells x ∧ x.ok := by
  have hf := struct_in Try.underlying46 (by kernel_rfl) (by kernel_rfl) h
  obtain ⟨v0, m0, z0, c0, t0⟩ := hf 0 _ rfl
  obtain ⟨v1, m1, z1, c1, t1⟩ := hf 1 _ rfl
  obtain ⟨v2, m2, z2, c2, t2⟩ := hf 2 _ rfl
  obtain ⟨v3, m3, z3, c3, t3⟩ := hf 3 _ rfl
  obtain ⟨x0, rfl, i0⟩ := int_in t0
  obtain ⟨x1, rfl, i1⟩ := int_in t1
  obtain ⟨x2, rfl, i2⟩ := int_in t2
  obtain ⟨x3, rfl, i3⟩ := int_in t3
  exact ⟨⟨x0, x1, x2, x3⟩, four_cells hl c0 c1 c2 c3, i0, i1, i2, i3⟩
set_option maxRecDepth 100000 in
theorem raw_in {b0 : Nat} {v : Value} {d : DataW H} {p : List MemPlace} (hv : Value.okWide Try.prog w .any b0 46 v)
    (h : DataW.Trod enc Try.prog w 0 (fun _ => true) true 46 v d p) : ∃ x : Rw, v = rwVal x ∧ x.ok := by
  have hh := okWide_struct Try.underlying46 hv
  rw [cellsRaw] at hh
  obtain ⟨cs, he, hsz⟩ := hh
  subst he
  obtain ⟨fuel, hf⟩ := h
  obtain ⟨x, hx, ho⟩ := rw_in (cs := cs.toList) (by simpa using hsz) (by simpa [Value.cells] using hf)
  refine ⟨x, ?_, ho⟩
  unfold rwVal
  congr 1
  rw [← Array.toList_inj, hx]
  rfl
theorem raws_in {a0 : Option Addr} {len0 cap0 : Nat} {d : DataW H} {p : List MemPlace}
    (h : DataW.Trod enc Try.prog w 0 (fun _ => true) true 37 (.slice a0 len0 cap0) d p) :
    ∃ rs : List Rw, rs.length = len0 ∧ RawsR w (fun _ => True) (.slice a0 len0 cap0) rs ∧ (∀ x ∈ rs, x.ok) ∧ len0 ≤ maxLen := by
  obtain ⟨css, h1, h2, h3, h4, h5, _⟩ := slice_in (C := 4) Try.underlying37 (by kernel_rfl) (by omega) h
  obtain ⟨rs, hr, hp⟩ := list_of len0 (fun i (x : Rw) => css[i]? = some (rwCells x) ∧ x.ok) (fun i hi => by
    have hc : css[i]? = some (css[i]'(by omega)) := List.getElem?_eq_getElem (by omega)
    obtain ⟨n, y, ht⟩ := h4 i _ hc
    obtain ⟨x, e, hx⟩ := rw_in (h2 i _ hc) ht
    exact ⟨x, by rw [hc, e], hx⟩)
  have hcs : css = rs.map rwCells := by
    apply List.ext_getElem?
    intro i
    rw [List.getElem?_map]
    cases hri : rs[i]? with
    | none =>
      rw [List.getElem?_eq_none_iff] at hri
      simp only [Option.map_none]
      rw [List.getElem?_eq_none_iff]; omega
    | some x => simpa using (hp i x hri).1
  refine ⟨rs, hr, ?_, fun x hx => ?_, h5⟩
  · unfold RawsR
    rw [hr]
    rw [hcs, ← List.flatMap_def] at h3
    exact h3
  · obtain ⟨i, hi⟩ := List.getElem?_of_mem hx
    exact (hp i x hi).2
end
end Go.Proofs.Ytooalgnppnmeaaa
