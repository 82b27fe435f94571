/- Is some node beneath itself: nodes are found sound one by one. Plain lists. -/
import Derived.Test.YtooalgnppnmeaaaDfs
namespace Go.Proofs.Ytooalgnppnmeaaa

def allS (s : List Bool) (l : List Int) : Bool := l.all (sees s)
/-- Those that were found have heights. -/
def SoundOk (ns : List Nd) (s : List Bool) : Prop :=
  s.length = ns.length ∧ ∃ r : Int → Nat, ∀ x n, ndAt ns x = some n → sees s x = true → ∀ d ∈ n.down, sees s d = true ∧ r d < r x
def StuckAt (ns : List Nd) (s : List Bool) (x : Int) : Prop := ∀ n, ndAt ns x = some n → sees s x = false → allS s n.down = false
def Inn (ns : List Nd) : Prop := ∀ n ∈ ns, ∀ d ∈ n.down, inR ns d = true

theorem SoundOk.begin (ns : List Nd) : SoundOk ns (List.replicate ns.length false) := by
  refine ⟨by simp, fun _ => 0, fun x n _ h => ?_⟩
  have : sees (List.replicate ns.length false) x = false := by
    simp [sees, List.getD, List.getElem?_replicate]
    split <;> rfl
  rw [this] at h; cases h
theorem SoundOk.step {ns : List Nd} {s : List Bool} (h : SoundOk ns s) (hi : Inn ns) {x : Int} {n : Nd} (hn : ndAt ns x = some n) (hx : sees s x = false) (ha : allS s n.down = true) :
    SoundOk ns (s.set x.toNat true) ∧ (s.set x.toNat true).count false + 1 = s.count false := by
  obtain ⟨hl, r, hr⟩ := h
  obtain ⟨hxr, hxg⟩ := ndAt_inR hn
  have hxi := inR_iff.1 hxr
  have hxl : 0 ≤ x ∧ x < s.length := by rw [hl]; exact hxi
  have hall : ∀ d ∈ n.down, sees s d = true := fun d hd => List.all_eq_true.1 ha d hd
  have hcount : s[x.toNat]? = some false := by
    unfold sees at hx
    rw [List.getElem?_eq_getElem (show x.toNat < s.length by omega)]
    simp [List.getD, List.getElem?_eq_getElem (show x.toNat < s.length by omega)] at hx
    rw [hx]
  refine ⟨⟨by simpa using hl, fun y => if y = x then (n.down.map r).sum + 1 else r y, fun y m hm hs d hd => ?_⟩, count_set hcount⟩
  have hy := inR_iff.1 (ndAt_inR hm).1
  have hd0 := inR_iff.1 (hi m (ndAt_mem hm) d hd)
  rcases (sees_set hxl hy.1).1 hs with rfl | hs
  · rw [hn] at hm
    injection hm with hm
    subst hm
    have h1 := hall d hd
    have hne : d ≠ y := fun e => by rw [e, hx] at h1; cases h1
    refine ⟨(sees_set hxl hd0.1).2 (.inr h1), ?_⟩
    dsimp only
    rw [if_neg hne, if_pos rfl]
    have := sum_ge r n.down d hd
    omega
  · obtain ⟨h1, h2⟩ := hr y m hm hs d hd
    have hne : d ≠ x := fun e => by rw [e, hx] at h1; cases h1
    have hne2 : y ≠ x := fun e => by rw [e, hx] at hs; cases hs
    refine ⟨(sees_set hxl hd0.1).2 (.inr h1), ?_⟩
    dsimp only
    rw [if_neg hne, if_neg hne2]
    exact h2
theorem SoundOk.all {ns : List Nd} {s : List Bool} (h : SoundOk ns s) (ha : ∀ x : Int, inR ns x = true → sees s x = true) : Acyc ns := by
  obtain ⟨_, r, hr⟩ := h
  exact ⟨r, fun a n hn d hd => (hr a n hn (ha a (ndAt_inR hn).1) d hd).2⟩
theorem stuck_all {ns : List Nd} {s : List Bool} (hi : Inn ns) (hs : ∀ x : Int, inR ns x = true → StuckAt ns s x) (h : Acyc ns) (x : Int) (hx : inR ns x = true) : sees s x = true := by
  obtain ⟨r, hr⟩ := h
  generalize hk : r x = k
  induction k using Nat.strongRecOn generalizing x with
  | ind k ih =>
    cases hq : sees s x with
    | true => rfl
    | false =>
      obtain ⟨n, hn, _⟩ := ndAt_of hx
      have := hs x hx n hn hq
      rw [allS, List.all_eq_false] at this
      obtain ⟨d, hd, hnd⟩ := this
      have := ih (r d) (by have := hr x n hn d hd; omega) d (hi n (ndAt_mem hn) d hd) rfl
      exact absurd this hnd
theorem allS_snoc (s : List Bool) (l : List Int) (x : Int) : allS s (l ++ [x]) = (allS s l && sees s x) := by simp [allS]
theorem sees_get {s : List Bool} {x : Int} (h : x.toNat < s.length) : s[x.toNat]? = some (sees s x) := by
  simp [sees, List.getD, List.getElem?_eq_getElem h]
end Go.Proofs.Ytooalgnppnmeaaa
