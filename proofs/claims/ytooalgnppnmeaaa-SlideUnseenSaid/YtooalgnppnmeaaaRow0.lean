/- What the rows of the laws share: how a slice of whole numbers that came in is read. -/
import Derived.Test.YtooalgnppnmeaaaRows
import Derived.Test.YtooalgnppnmeaaaH1
import Derived.WalkKit
import Derived.ProofKit
import Derived.OpenShut
import Derived.ChangeOld
import Derived.Below
import Derived.Test.YtooalgnppnmeaaaL11a
namespace Go.Proofs.Ytooalgnppnmeaaa
open Go.ChangeShapes Go.WideShapes Go.ChangeAt Go.RowKit
theorem own0 : ownKnob Try.prog.godebug = none := by kernel_rfl
theorem laidOut0 : laidOutB Try.prog = true := by kernel_rfl

theorem i64_of_wf {x : Int} (h : (Lit.int .i64 x).wf = true) : I64 x := by
  simpa [I64, Lit.wf, IntKind.min, IntKind.max, IntKind.signed, IntKind.bits] using h

/-- A slice of ints that came in. -/
theorem ints_in {H : Type} {enc : TypeId × Value → H} {w : World} {a0 : Option Addr} {len0 cap0 : Nat} {d : DataW H} {p : List MemPlace}
    (h : DataW.Trod enc Try.prog w 0 (fun _ => true) true 22 (.slice a0 len0 cap0) d p) :
    ∃ l : List Int, l.length = len0 ∧ RowR w 1 (fun _ => True) (.slice a0 len0 cap0) l.length (ints l) ∧ (∀ x ∈ l, I64 x) ∧ len0 ≤ maxLen := by
  obtain ⟨fuel, hf⟩ := h
  rcases open_ints Try.underlying22 Try.underlying3 (by kernel_rfl) hf with ⟨hcs, _⟩ | ⟨x, l, c, zs, hcs, _, hl, hm, hz, _, hcell, hwz⟩
  · simp [Value.cells] at hcs
    obtain ⟨rfl, rfl, rfl⟩ := hcs
    exact ⟨[], rfl, RowR.nil _ _ _, by simp, by simp⟩
  · simp [Value.cells] at hcs
    obtain ⟨rfl, rfl, rfl⟩ := hcs
    have hzl : zs.length = cap0 := by simpa using hz
    refine ⟨zs.take len0, by simp; omega, ?_, fun x hx => i64_of_wf (hwz x (List.mem_of_mem_take hx)), by omega⟩
    rw [show (zs.take len0).length = len0 by simp; omega]
    refine ⟨by simp; omega, _, _, rfl, hl, fun hp => ?_⟩
    obtain ⟨b, off, spot⟩ := x
    have hc := hcell 0 (by omega)
    have hspot : spot = none := by simpa [Addr.add] using World.cell?_spot hc
    subst hspot
    refine ⟨b, off, rfl, trivial, World.block_lt_of_cell? w _ (by simpa [Addr.add] using hc), fun j u hj => ?_⟩
    rw [ints_get, List.getElem?_take] at hj
    split at hj
    · rename_i hjl
      rw [List.getElem?_eq_getElem (by omega)] at hj
      have h2 := hcell j (by omega)
      have hget : zs.getD j 0 = zs[j] := by simp [List.getD, List.getElem?_eq_getElem (show j < zs.length by omega)]
      rw [hget] at h2
      simp only [Option.map_some, Option.some.injEq] at hj
      subst hj
      unfold Addr.add at h2
      by_cases hj0 : j = 0
      · subst hj0; simpa using h2
      · simpa [hj0] using h2
    · cases hj
end Go.Proofs.Ytooalgnppnmeaaa
