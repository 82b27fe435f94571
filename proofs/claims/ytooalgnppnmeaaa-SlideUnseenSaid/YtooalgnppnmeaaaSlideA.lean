/- Sliding again, as plain data: behind it all is kept, and another one changes nothing. -/
import Derived.Test.YtooalgnppnmeaaaCollect
namespace Go.Proofs.Ytooalgnppnmeaaa

def idL (n : Nat) : List Int := (List.range n).map fun (i : Nat) => (i : Int)
theorem idL_at {n : Nat} {x : Int} (h : 0 ≤ x ∧ x < n) : at0 (idL n) x = x := by
  unfold at0 idL
  rw [List.getD_eq_getElem?_getD, List.getElem?_map, List.getElem?_range (by omega)]
  simp; omega
theorem slide_app {ns : List Nd} {is : List Int} {keep : List Bool} (hk : KeepOk ns is keep) : ∀ m ∈ slideAll ns keep is, m.pts = false := by
  intro m hm
  obtain ⟨i, hi⟩ := List.getElem?_of_mem hm
  obtain ⟨y, n, _, h2, h3, rfl⟩ := slideAll_at hi
  exact hk.app y n h2 h3
theorem isL_id {ms : List Nd} (h : ∀ m ∈ ms, m.pts = false) : IsL ms (idL ms.length) := by
  refine ⟨by simp [idL], fun i b hb => ?_⟩
  unfold idL at hb
  have hl := (List.getElem?_eq_some_iff.1 hb).1
  simp at hl
  rw [List.getElem?_map, List.getElem?_range hl] at hb
  have : (i : Int) = b := by simpa using hb
  subst this
  have hm : ms[i]? = some ms[i] := List.getElem?_eq_getElem hl
  exact .app (n := ms[i]) (by unfold ndAt; rw [if_pos (by omega)]; simp) (h _ (List.getElem_mem hl))
theorem rank_in {ns : List Nd} {is : List Int} {keep : List Bool} {y : Int} (hy : inR ns y = true) (hs : sees keep y = true) : inR (slideAll ns keep is) (rankK keep y) = true := by
  refine inR_iff.2 ?_
  have := rank_lt (inR_iff.1 hy) hs
  rw [show (slideAll ns keep is).length = (liveUp keep ns.length).length from slideUp_length _ _ _ _]
  exact this
/-- Ways are kept. -/
theorem rt_rank {ns : List Nd} {is : List Int} {keep : List Bool} (hs : Sane ns) (hi : IsL ns is) (hk : KeepOk ns is keep) {f y : Int} (h : RT (nextI ns is) f y) (hf : inR ns f = true) (hfk : sees keep f = true) :
    RT (nextI (slideAll ns keep is) (idL (slideAll ns keep is).length)) (rankK keep f) (rankK keep y) := by
  induction h with
  | refl => exact .refl _
  | step h1 _ ih =>
    unfold nextI at h1
    split at h1
    · rename_i n hn
      obtain ⟨b, hb, rfl⟩ := List.mem_map.1 h1
      have hbi := hi.inR (hs.arg (ndAt_mem hn) hb)
      have hbk := hk.down _ n hn hfk b hb
      refine .step ?_ (ih hbi hbk)
      have := slideAll_rank (is := is) hn hfk
      unfold nextI
      rw [this]
      refine List.mem_map.2 ⟨rankK keep (at0 is b), List.mem_map.2 ⟨b, hb, rfl⟩, ?_⟩
      exact idL_at (inR_iff.1 (rank_in hbi hbk))
    · simp at h1
section
variable {ns : List Nd} {is roots : List Int}
theorem to_ok (hi : IsL ns is) (hr : okRoots ns roots = true) : okRoots (slideOf ns is roots) (toOf ns is roots) = true := by
  unfold okRoots
  rw [List.all_eq_true]
  intro x hx
  unfold toOf at hx
  obtain ⟨r, hr2, rfl⟩ := List.mem_map.1 hx
  have hri := hi.inR (List.all_eq_true.1 hr r hr2)
  exact rank_in hri ((keepOf_sees (inR_iff.1 hri)).2 ⟨_, List.mem_map.2 ⟨r, hr2, rfl⟩, .refl _⟩)
theorem again_keep (hs : Sane ns) (hi : IsL ns is) (hr : okRoots ns roots = true) : keepOf (slideOf ns is roots) (idL (slideOf ns is roots).length) (toOf ns is roots) = List.replicate (slideOf ns is roots).length true := by
  have hk := keepOk_of hs hi hr
  symm
  refine keepOf_unique (by simp) fun x hx => ?_
  have h1 : sees (List.replicate (slideOf ns is roots).length true) x = true := by
    unfold sees
    rw [List.getD_eq_getElem?_getD, List.getElem?_replicate, if_pos (by omega)]
    rfl
  refine ⟨fun _ => ?_, fun _ => h1⟩
  have hxl : x.toNat < (slideOf ns is roots).length := by omega
  obtain ⟨y, n, hy, hn, hs2, _⟩ := slideAll_at (List.getElem?_eq_getElem hxl)
  have hrk := liveUp_rank' hy
  rw [Int.toNat_of_nonneg hx.1] at hrk
  obtain ⟨f, hf, hfy⟩ := (keepOf_sees (inR_iff.1 (ndAt_inR hn).1)).1 hs2
  obtain ⟨r, hr2, rfl⟩ := List.mem_map.1 hf
  have hri := hi.inR (List.all_eq_true.1 hr r hr2)
  have hrs : sees (keepOf ns is roots) (at0 is r) = true := (keepOf_sees (inR_iff.1 hri)).2 ⟨_, hf, .refl _⟩
  have hrt := rt_rank hs hi hk hfy hri hrs
  rw [hrk] at hrt
  refine ⟨_, List.mem_map.2 ⟨rankK (keepOf ns is roots) (at0 is r), List.mem_map.2 ⟨r, hr2, rfl⟩, rfl⟩, ?_⟩
  have e := idL_at (n := (slideOf ns is roots).length) (x := rankK (keepOf ns is roots) (at0 is r)) (inR_iff.1 (rank_in hri hrs))
  rw [e]
  exact hrt
theorem liveUp_true (n k : Nat) (h : k ≤ n) : liveUp (List.replicate n true) k = idL k := by
  unfold liveUp idL
  congr 1
  rw [List.filter_eq_self]
  intro i hi
  have := List.mem_range.1 hi
  unfold sees
  rw [List.getD_eq_getElem?_getD, List.getElem?_replicate, if_pos (by simp; omega)]
  rfl
theorem rank_true {n : Nat} {x : Int} (h : 0 ≤ x ∧ x ≤ n) : rankK (List.replicate n true) x = x := by
  unfold rankK
  rw [liveUp_true n _ (by omega)]
  simp [idL]; omega
theorem again_live (hs : Sane ns) (hi : IsL ns is) (hr : okRoots ns roots = true) : liveOf (slideOf ns is roots) (idL (slideOf ns is roots).length) (toOf ns is roots) = idL (slideOf ns is roots).length := by
  unfold liveOf liveK
  rw [if_pos (to_ok hi hr), again_keep hs hi hr, List.length_replicate, liveUp_true _ _ (Nat.le_refl _)]
theorem again_slide (hs : Sane ns) (hi : IsL ns is) (hr : okRoots ns roots = true) (hs2 : Sane (slideOf ns is roots)) : slideOf (slideOf ns is roots) (idL (slideOf ns is roots).length) (toOf ns is roots) = slideOf ns is roots := by
  show slideAll (slideOf ns is roots) _ _ = _
  rw [again_keep hs hi hr]
  generalize slideOf ns is roots = ms at *
  unfold slideAll slideUp
  rw [liveUp_true _ _ (Nat.le_refl _)]
  apply List.ext_getElem
  · simp [idL]
  · intro i h1 h2
    have hm : ms[i]? = some ms[i] := List.getElem?_eq_getElem h2
    simp only [idL, List.map_map, List.getElem_map, List.getElem_range, Function.comp_apply, Int.toNat_natCast, List.getD_eq_getElem?_getD, hm, Option.getD_some]
    unfold slideNd
    have : (ms[i].args.map fun b => rankK (List.replicate ms.length true) (at0 (idL ms.length) b)) = ms[i].args := by
      conv => rhs; rw [← List.map_id ms[i].args]
      apply List.map_congr_left
      intro b hb
      have hbi := inR_iff.1 (hs2.arg (List.mem_of_getElem? hm) hb)
      rw [idL_at hbi, rank_true (by omega)]
      rfl
    show { ms[i] with args := ms[i].args.map fun b => rankK (List.replicate ms.length true) (at0 (idL ms.length) b) } = ms[i]
    rw [this]
theorem again_to (hs : Sane ns) (hi : IsL ns is) (hr : okRoots ns roots = true) : toOf (slideOf ns is roots) (idL (slideOf ns is roots).length) (toOf ns is roots) = toOf ns is roots := by
  have hok := to_ok hi hr
  show (toOf ns is roots).map (fun r => rankK (keepOf (slideOf ns is roots) (idL (slideOf ns is roots).length) (toOf ns is roots)) (at0 (idL (slideOf ns is roots).length) r)) = toOf ns is roots
  rw [again_keep hs hi hr]
  conv => rhs; rw [← List.map_id (toOf ns is roots)]
  apply List.map_congr_left
  intro x hx
  have := inR_iff.1 (List.all_eq_true.1 hok x hx)
  rw [idL_at this, rank_true (by omega)]
  rfl
end
end Go.Proofs.Ytooalgnppnmeaaa
