/- Sliding, as plain data: what is kept. And an append of one number. -/
import Derived.Test.YtooalgnppnmeaaaRead
import Derived.Test.YtooalgnppnmeaaaKahn
import Derived.Test.YtooalgnppnmeaaaH4
namespace Go.Proofs.Ytooalgnppnmeaaa
open Go.RowKit

/-- What is right beneath an application, as applications. -/
def nextI (ns : List Nd) (is : List Int) (x : Int) : List Int := match ndAt ns x with | some n => n.args.map (at0 is) | none => []
/-- x is kept. -/
def KeptP (ns : List Nd) (is roots : List Int) (x : Int) : Prop := ∃ f ∈ roots.map (at0 is), RT (nextI ns is) f x
noncomputable def keepOf (ns : List Nd) (is roots : List Int) : List Bool := by
  classical exact (List.range ns.length).map fun (a : Nat) => decide (KeptP ns is roots a)
theorem keepOf_length (ns : List Nd) (is roots : List Int) : (keepOf ns is roots).length = ns.length := by simp [keepOf]
theorem keepOf_sees {ns : List Nd} {is roots : List Int} {x : Int} (hx : 0 ≤ x ∧ x < ns.length) : sees (keepOf ns is roots) x = true ↔ KeptP ns is roots x := by
  unfold sees keepOf
  rw [List.getD_eq_getElem?_getD, List.getElem?_map, List.getElem?_range (by omega)]
  simp [Int.toNat_of_nonneg hx.1]
theorem keepOf_unique {ns : List Nd} {is roots : List Int} {seen : List Bool} (hl : seen.length = ns.length) (h : ∀ x : Int, (0 ≤ x ∧ x < ns.length) → (sees seen x = true ↔ KeptP ns is roots x)) : seen = keepOf ns is roots := by
  apply List.ext_getElem
  · rw [hl, keepOf_length]
  · intro i h1 h2
    have hi : (0 : Int) ≤ (i : Int) ∧ (i : Int) < ns.length := by omega
    have e1 := sees_get (s := seen) (x := (i : Int)) (by omega)
    have e2 := sees_get (s := keepOf ns is roots) (x := (i : Int)) (by rw [keepOf_length]; omega)
    simp only [Int.toNat_natCast] at e1 e2
    rw [List.getElem?_eq_getElem h1] at e1
    rw [List.getElem?_eq_getElem h2] at e2
    injection e1 with e1
    injection e2 with e2
    rw [e1, e2, Bool.eq_iff_iff, h _ hi, keepOf_sees hi]
theorem at0_get {l : List Int} {x : Int} (h : x.toNat < l.length) : l[x.toNat]? = some (at0 l x) := by
  simp [at0, List.getD, List.getElem?_eq_getElem h]
theorem IsL.is {ns : List Nd} {is : List Int} (h : IsL ns is) {x : Int} (hx : inR ns x = true) : Is ns x (at0 is x) := by
  have := inR_iff.1 hx
  have h1 := at0_get (l := is) (x := x) (by rw [h.len]; omega)
  have := h.at_ _ _ h1
  rwa [Int.toNat_of_nonneg (by omega)] at this
theorem Is.inR {ns : List Nd} {a b : Int} (h : Is ns a b) : inR ns b = true := by
  obtain ⟨n, h1, _⟩ := h.end_
  exact (ndAt_inR h1).1
theorem IsL.inR {ns : List Nd} {is : List Int} (h : IsL ns is) {x : Int} (hx : inR ns x = true) : Ytooalgnppnmeaaa.inR ns (at0 is x) = true := (h.is hx).inR
theorem IsL.unique {ns : List Nd} {is js : List Int} (h : IsL ns is) (k : IsL ns js) : is = js := by
  apply List.ext_getElem
  · rw [h.len, k.len]
  · intro i h1 h2
    exact (h.at_ i _ (List.getElem?_eq_getElem h1)).unique (k.at_ i _ (List.getElem?_eq_getElem h2))
theorem IsL.exists_ {ns : List Nd} (hs : Sane ns) (hA : Acyc ns) : ∃ is, IsL ns is := by
  have : ∀ k, k ≤ ns.length → ∃ is : List Int, is.length = k ∧ ∀ (i : Nat) (b : Int), is[i]? = some b → Is ns i b := by
    intro k hk
    induction k with
    | zero => exact ⟨[], rfl, by simp⟩
    | succ k ih =>
      obtain ⟨is, h1, h2⟩ := ih (by omega)
      obtain ⟨b, hb⟩ := Is.exists_ hs hA (k : Int) (inR_iff.2 (by omega))
      refine ⟨is ++ [b], by simp [h1], fun i c hc => ?_⟩
      rw [List.getElem?_append] at hc
      split at hc
      · exact h2 i c hc
      · have hl := (List.getElem?_eq_some_iff.1 hc).1
        have : i = k := by simp at hl; omega
        subst this
        simp [h1] at hc
        rw [← hc]; exact hb
  obtain ⟨is, h1, h2⟩ := this ns.length (Nat.le_refl _)
  exact ⟨is, h1, h2⟩
theorem nextI_in {ns : List Nd} {is : List Int} (hs : Sane ns) (hi : IsL ns is) (x d : Int) (hx : ∀ n, ndAt ns x = some n → n.pts = false) (h : d ∈ nextI ns is x) : inR ns d = true := by
  unfold nextI at h
  split at h
  · rename_i n hn
    obtain ⟨y, hy, rfl⟩ := List.mem_map.1 h
    have hd : y ∈ n.down := by unfold Nd.down; rw [if_neg (by rw [hx n hn]; simp)]; exact hy
    exact hi.inR (hs.inn n (ndAt_mem hn) y hd)
  · simp at h
/-- Arguments are there, whatever the node. -/
theorem Sane.arg {ns : List Nd} (hs : Sane ns) {n : Nd} (hn : n ∈ ns) {y : Int} (hy : y ∈ n.args) : inR ns y = true := by
  refine hs.inn n hn y ?_
  unfold Nd.down
  split
  · rename_i hp; rw [hs.ptr n hn hp] at hy; simp at hy
  · exact hy
theorem nextI_in' {ns : List Nd} {is : List Int} (hs : Sane ns) (hi : IsL ns is) (x d : Int) (h : d ∈ nextI ns is x) : 0 ≤ d ∧ d < ns.length := by
  unfold nextI at h
  split at h
  · rename_i n hn
    obtain ⟨y, hy, rfl⟩ := List.mem_map.1 h
    exact inR_iff.1 (hi.inR (hs.arg (ndAt_mem hn) hy))
  · simp at h

/-- An append of one number. -/
theorem int_push {w : World} {base : Nat} {v : Value} {l : List Int} (h : w.ownsRow base 3 1 v l.length (ints l)) (hb : base ≤ w.heap.size) (x : Int) (hlen : l.length ≤ 4000000) :
    ∃ g c w4, (Builtin.append_ #[22, 22] 22 #[v, .slice (some ⟨w.heap.size, 0, none⟩) 1 1]).run Try.prog (w.alloc (.cells #[.int .i64 x] 3)) = .ok (.slice (some ⟨g, 0, none⟩) (l.length + 1) c) w4 ∧
      w4.ownsRow base 3 1 (.slice (some ⟨g, 0, none⟩) (l.length + 1) c) (l ++ [x]).length (ints (l ++ [x])) ∧ Kept (fun k => v.ownBlock = some k) w w4 ∧ (v.ownBlock = some g ∨ w.heap.size ≤ g) := by
  obtain ⟨v', w4, hrun, ho, hg, hat, hs⟩ := run_append_row (P := Try.prog) (ty := 22) Try.underlying22 info3 rfl (by decide) (h.alloc (.cells #[.int .i64 x] 3)) (RowR.new w 1 1 #[.int .i64 x] 3 rfl) (ints_one [x]) (by omega) (by omega) (by simp; omega)
  obtain ⟨g, c, rfl⟩ := hs (by omega)
  refine ⟨g, c, w4, hrun, ?_, ((Kept.refl _ w).alloc _).grown hg (fun k hk _ => hk), ?_⟩
  · rw [ints_append]
    simpa [ints] using ho
  · rcases hat with e | e
    · exact .inl (by rw [← e]; simp [Value.ownBlock])
    · refine .inr ?_
      have : g = w.heap.size + 1 := by simpa [Value.ownBlock] using e
      omega
end Go.Proofs.Ytooalgnppnmeaaa
