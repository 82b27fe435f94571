/- SlideUnseen: for every input the law returns true, and what came in reads as it did. No condition. -/
import Derived.Test.YtooalgnppnmeaaaRow1
import Derived.Test.YtooalgnppnmeaaaUnseenM
import Derived.Test.YtooalgnppnmeaaaSlideUnseenW
namespace Go.Proofs.Ytooalgnppnmeaaa
open Go.ChangeShapes Go.WideShapes Go.ChangeAt Go.RowKit Go.Deep
theorem cellsAct : Try.prog.cellsOf 87 = 4 := by kernel_rfl
theorem four_cells {cs : List Value} {a b c d : Value} (hl : cs.length = 4) (h0 : cs[0]? = some a) (h1 : cs[1]? = some b) (h2 : cs[2]? = some c) (h3 : cs[3]? = some d) : cs = [a, b, c, d] := by
  match cs, hl with
  | [x0, x1, x2, x3], _ => simp_all
section
variable {H : Type} {enc : TypeId × Value → H} {w : World}
theorem ac_in {n : Nat} {cs : List Value} {y : DataW H × List MemPlace} (hl : cs.length = 4) (h : DataW.trod enc Try.prog w 0 (fun _ => true) true n 87 cs = some y) : ∃ x : Ac, cs = acCells x ∧ x.ok := by
  have hf := struct_in Try.underlying87 (by kernel_rfl) (by kernel_rfl) h
  obtain ⟨v0, m0, z0, c0, t0⟩ := hf 0 _ rfl
  obtain ⟨v1, m1, z1, c1, t1⟩ := hf 1 _ rfl
  obtain ⟨v2, m2, z2, c2, t2⟩ := hf 2 _ rfl
  obtain ⟨v3, m3, z3, c3, t3⟩ := hf 3 _ rfl
  obtain ⟨x0, rfl, i0⟩ := int_in t0
  obtain ⟨x1, rfl, i1⟩ := int_in t1
  obtain ⟨x2, rfl, i2⟩ := int_in t2
  obtain ⟨x3, rfl, i3⟩ := int_in t3
  exact ⟨⟨x0, x1, x2, x3⟩, four_cells hl c0 c1 c2 c3, i0, i1, i2, i3⟩
theorem acts_in {a0 : Option Addr} {len0 cap0 : Nat} {d : DataW H} {p : List MemPlace}
    (h : DataW.Trod enc Try.prog w 0 (fun _ => true) true 85 (.slice a0 len0 cap0) d p) :
    ∃ rs : List Ac, rs.length = len0 ∧ ActsR w (fun _ => True) (.slice a0 len0 cap0) rs ∧ (∀ x ∈ rs, x.ok) ∧ len0 ≤ maxLen := by
  obtain ⟨css, h1, h2, h3, h4, h5, _⟩ := slice_in (C := 4) Try.underlying85 (by kernel_rfl) (by omega) h
  obtain ⟨rs, hr, hp⟩ := list_of len0 (fun i (x : Ac) => css[i]? = some (acCells x) ∧ x.ok) (fun i hi => by
    have hc : css[i]? = some (css[i]'(by omega)) := List.getElem?_eq_getElem (by omega)
    obtain ⟨n, y, ht⟩ := h4 i _ hc
    obtain ⟨x, e, hx⟩ := ac_in (h2 i _ hc) ht
    exact ⟨x, by rw [hc, e], hx⟩)
  have hcs : css = rs.map acCells := by
    apply List.ext_getElem?
    intro i
    rw [List.getElem?_map]
    cases hri : rs[i]? with
    | none =>
      rw [List.getElem?_eq_none_iff] at hri
      simp only [Option.map_none]
      rw [List.getElem?_eq_none_iff]; omega
    | some x => simpa using (hp i x hri).1
  refine ⟨rs, hr, ?_, fun x hx => ?_, h5⟩
  · unfold ActsR
    rw [hr]
    rw [hcs, ← List.flatMap_def] at h3
    exact h3
  · obtain ⟨i, hi⟩ := List.getElem?_of_mem hx
    exact (hp i x hi).2
end
end Go.Proofs.Ytooalgnppnmeaaa
namespace Go.Proofs.Ytooalgnppnmeaaa.slideUnseenDone
open Go.ChangeShapes Go.WideShapes Go.ChangeAt Go.RowKit

set_option maxRecDepth 100000 in
theorem lifted (os : Os) (started : os.Started) (H : Type) (enc : TypeId × Value → H) :
    ReturnsInHanded {} Try.checked os 18 .any (Rows.slideUnseenSpec.pre6 enc Try.prog Try.f18 Rows.slideUnseenRow.domain false) (Rows.slideUnseenSpec.post enc Try.prog Try.f18 false true false false) := by
  refine returnsInHanded_of_change (C := Try.checked) own0 started (by kernel_rfl) Try.func18
    (ChangeSpec.witness6 (enc := enc) (C := Try.checked) false ⟨#[], #[.slice none 0 0], []⟩ 8 (by kernel_rfl) (by kernel_rfl) (by kernel_rfl) (by kernel_rfl)) ?_
  intro W base args ds gs before hval0 hW hcnd _
  have hval : ∀ (j : Nat) t v, Try.f18.params[j]? = some t → args[j]? = some v → Value.okWide Try.prog W .any base t v := hval0
  have hW' := hW
  obtain ⟨p, q, hA0, hV, rfl, hfz, hnd⟩ := hW
  have hA : DataW.TrodAll enc Try.prog W 0 (fun _ => true) true Try.f18.params.toList args.toList ds p := hA0
  rw [Try.params18] at hA hval
  obtain ⟨v0, vs0, d0, ds0, p0, q0, hargs, rfl, rfl, h0, r0⟩ := trodAll_cons hA
  obtain ⟨rfl, rfl, rfl⟩ := trodAll_nil r0
  obtain rfl : args = #[v0] := by cases args; simp_all
  obtain ⟨rfl, rfl⟩ := trodVars_none hV
  have k0 := h0
  have lt0 : ∀ x ∈ p0, x.block < W.heap.size := by obtain ⟨m, hm⟩ := k0; exact DataW.trod_lt m _ _ _ hm
  obtain ⟨A0, len0, cap0, rfl⟩ := okWide_slice Try.underlying85 (hval 0 85 v0 rfl rfl)
  obtain ⟨l0, hl0, hr0, hI0, hm0⟩ := acts_in h0
  clear hA0 hval0
  refine (slideUnseen_any _ l0 W hr0 hI0 (by unfold maxLen at hm0; omega)).mono fun e W' ⟨he, hk⟩ => ?_
  have bel : Below W.heap.size W W' := hk.below (Nat.le_refl _) (fun k hf => hf.elim)
  subst he
  exact ⟨_, rfl, _, _, _, [], _, [], hW', trodAll_mk1 (shut_bool Try.underlying4 _), (trodAll_cons_mk (Below.trod laidOut0 (by kernel_rfl) (of_decide_eq_true (by kernel_rfl)) k0 bel lt0) trodAll_mk0), rfl, bel.frame _, fun h => by cases h⟩

theorem proved : Rows.SlideUnseenSaid :=
  OpenClaim.holds_of_wide 18 Try.f18 rfl rfl rfl rfl rfl rfl rfl ⟨rfl, rfl, rfl, rfl, rfl⟩ rfl rfl rfl rfl rfl (by kernel_rfl) Try.func18 (by kernel_rfl)
    (of_decide_eq_true (by kernel_rfl)) (by unfold Func.isWrapper; first | (rw [if_pos (by decide +kernel)]; kernel_rfl) | (rw [if_neg (by decide +kernel)]; exact ⟨rfl, rfl⟩))
    (fun os started H enc _ => lifted os started H enc)
end Go.Proofs.Ytooalgnppnmeaaa.slideUnseenDone
