/- The chapter's example, as plain data. -/
import Derived.Test.YtooalgnppnmeaaaCollect
namespace Go.Proofs.Ytooalgnppnmeaaa

theorem KeptP.step {ns : List Nd} {is roots : List Int} {x d : Int} (h : KeptP ns is roots x) (hd : d ∈ nextI ns is x) : KeptP ns is roots d := by
  obtain ⟨f, hf, hfx⟩ := h
  exact ⟨f, hf, hfx.trans (.step hd (.refl d))⟩
theorem KeptP.root {ns : List Nd} {is roots : List Int} {x : Int} (h : x ∈ roots.map (at0 is)) : KeptP ns is roots x := ⟨x, h, .refl x⟩
theorem keep_is {ns : List Nd} {is roots : List Int} (S : List Int) (h1 : ∀ x ∈ S, KeptP ns is roots x) (h2 : ∀ f ∈ roots.map (at0 is), f ∈ S) (h3 : ∀ x ∈ S, ∀ d ∈ nextI ns is x, d ∈ S) : keepOf ns is roots = (List.range ns.length).map fun (a : Nat) => decide ((a : Int) ∈ S) := by
  unfold keepOf
  apply List.map_congr_left
  intro a _
  rw [decide_eq_decide]
  exact ⟨fun ⟨f, hf, hfa⟩ => hfa.closed (P := fun z => z ∈ S) (fun x d hx hd => h3 x hx d hd) (h2 f hf), h1 _⟩
instance (n : Nd) (m : Int) : Decidable (MayP n m) := by unfold MayP; infer_instance
theorem acyc_down {ns : List Nd} (h : ∀ i ∈ List.range ns.length, ∀ d ∈ (ns.getD i Nd.zero).down, 0 ≤ d ∧ d < (i : Int)) : Acyc ns := by
  refine ⟨fun a => a.toNat, fun a n ha d hd => ?_⟩
  obtain ⟨h1, h2⟩ := ndAt_inR ha
  have h1 := inR_iff.1 h1
  have := h a.toNat (List.mem_range.2 (by omega)) d (by simpa [List.getD, h2] using hd)
  dsimp only
  omega
theorem Is.to {ns : List Nd} {a b : Int} {n : Nd} (h1 : ndAt ns a = some n) (h2 : n.pts = true) (h3 : Is ns n.to b) : Is ns a b := .ptr h1 h2 h3

def exL : List Nd := [⟨1, [], 0, false, 0⟩, ⟨2, [0], 0, false, 0⟩, ⟨1, [], 0, false, 0⟩, ⟨3, [1, 2], 0, false, 0⟩, ⟨0, [], 0, true, 3⟩, ⟨4, [4], 1, false, 0⟩]
def exI : List Int := [0, 1, 2, 3, 3, 5]
theorem ex_good : Good 6 exL := ⟨by decide, acyc_down (by decide), by decide⟩
theorem ex_is : IsL exL exI := by
  refine ⟨rfl, fun i b hb => ?_⟩
  have hl := (List.getElem?_eq_some_iff.1 hb).1
  have hl : i < 6 := hl
  have h3 : Is exL 3 3 := .app (n := ⟨3, [1, 2], 0, false, 0⟩) rfl rfl
  match i, hl with
  | 0, _ => have : b = 0 := by simpa [exI] using hb.symm
            subst this; exact .app (n := ⟨1, [], 0, false, 0⟩) rfl rfl
  | 1, _ => have : b = 1 := by simpa [exI] using hb.symm
            subst this; exact .app (n := ⟨2, [0], 0, false, 0⟩) rfl rfl
  | 2, _ => have : b = 2 := by simpa [exI] using hb.symm
            subst this; exact .app (n := ⟨1, [], 0, false, 0⟩) rfl rfl
  | 3, _ => have : b = 3 := by simpa [exI] using hb.symm
            subst this; exact h3
  | 4, _ => have : b = 3 := by simpa [exI] using hb.symm
            subst this; exact .ptr (n := ⟨0, [], 0, true, 3⟩) rfl rfl h3
  | 5, _ => have : b = 5 := by simpa [exI] using hb.symm
            subst this; exact .app (n := ⟨4, [4], 1, false, 0⟩) rfl rfl
theorem ex_keep1 : keepOf exL exI [4] = [true, true, true, true, false, false] := by
  have k3 : KeptP exL exI [4] 3 := .root (by decide)
  have k1 : KeptP exL exI [4] 1 := k3.step (by decide)
  have k2 : KeptP exL exI [4] 2 := k3.step (by decide)
  have k0 : KeptP exL exI [4] 0 := k1.step (by decide)
  rw [keep_is [0, 1, 2, 3] (by simp [k0, k1, k2, k3]) (by decide) (by decide)]
  rfl
theorem ex_keep2 : keepOf exL exI [5, 2, 5] = [true, true, true, true, false, true] := by
  have k5 : KeptP exL exI [5, 2, 5] 5 := .root (by decide)
  have k3 : KeptP exL exI [5, 2, 5] 3 := k5.step (by decide)
  have k1 : KeptP exL exI [5, 2, 5] 1 := k3.step (by decide)
  have k2 : KeptP exL exI [5, 2, 5] 2 := k3.step (by decide)
  have k0 : KeptP exL exI [5, 2, 5] 0 := k1.step (by decide)
  rw [keep_is [0, 1, 2, 3, 5] (by simp [k0, k1, k2, k3, k5]) (by decide) (by decide)]
  rfl
theorem ex_live : liveOf exL exI [4] = [0, 1, 2, 3] := by
  unfold liveOf
  rw [if_pos (by decide), ex_keep1]
  decide
def exM : List Nd := [⟨1, [], 0, false, 0⟩, ⟨2, [0], 0, false, 0⟩, ⟨1, [], 0, false, 0⟩, ⟨3, [1, 2], 0, false, 0⟩, ⟨4, [3], 1, false, 0⟩]
theorem ex_slide : slideOf exL exI [5, 2, 5] = exM := by
  unfold slideOf
  rw [ex_keep2]
  decide
theorem ex_to : toOf exL exI [5, 2, 5] = [4, 2, 4] := by
  unfold toOf
  rw [ex_keep2]
  decide
end Go.Proofs.Ytooalgnppnmeaaa
