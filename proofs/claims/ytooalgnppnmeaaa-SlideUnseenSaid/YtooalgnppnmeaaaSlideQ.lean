/- Sliding, as plain data: where what is kept goes, and that it may be a heap. -/
import Derived.Test.YtooalgnppnmeaaaLive
namespace Go.Proofs.Ytooalgnppnmeaaa

/-- How many below x are kept. -/
def rankK (keep : List Bool) (x : Int) : Int := ((liveUp keep x.toNat).length : Int)
def slideNd (keep : List Bool) (is : List Int) (n : Nd) : Nd := { n with args := n.args.map fun b => rankK keep (at0 is b) }
/-- What is there behind it, of the first k. -/
def slideUp (ns : List Nd) (keep : List Bool) (is : List Int) (k : Nat) : List Nd := (liveUp keep k).map fun a => slideNd keep is (ns.getD a.toNat Nd.zero)
def slideAll (ns : List Nd) (keep : List Bool) (is : List Int) : List Nd := slideUp ns keep is ns.length
theorem slideUp_length (ns : List Nd) (keep : List Bool) (is : List Int) (k : Nat) : (slideUp ns keep is k).length = (liveUp keep k).length := by simp [slideUp]
theorem slideUp_succ {ns : List Nd} {keep : List Bool} {is : List Int} {k : Nat} {n : Nd} (hn : ns[k]? = some n) : slideUp ns keep is (k + 1) = if sees keep (k : Int) = true then slideUp ns keep is k ++ [slideNd keep is n] else slideUp ns keep is k := by
  unfold slideUp
  rw [liveUp_succ]
  split
  · simp [List.getD, hn]
  · rfl
/-- The first k are told by f; the others are 0. -/
def fillUp (f : Nat → Int) (n k : Nat) : List Int := (List.range n).map fun i => if i < k then f i else 0
@[simp] theorem fillUp_length (f : Nat → Int) (n k : Nat) : (fillUp f n k).length = n := by simp [fillUp]
theorem fillUp_zero (f : Nat → Int) (n : Nat) : fillUp f n 0 = List.replicate n 0 := by
  unfold fillUp
  apply List.ext_getElem <;> simp
theorem fillUp_set (f : Nat → Int) {n k : Nat} (_h : k < n) : (fillUp f n k).set k (f k) = fillUp f n (k + 1) := by
  unfold fillUp
  apply List.ext_getElem
  · simp
  · intro i h1 h2
    simp only [List.getElem_set, List.getElem_map, List.getElem_range]
    by_cases hi : k = i
    · subst hi; simp
    · rw [if_neg hi]
      by_cases h3 : i < k
      · rw [if_pos h3, if_pos (by omega)]
      · rw [if_neg h3, if_neg (by omega)]
theorem fillUp_all (f : Nat → Int) (n : Nat) : fillUp f n n = (List.range n).map f := by
  unfold fillUp
  apply List.map_congr_left
  intro i hi
  rw [if_pos (List.mem_range.1 hi)]
theorem fillUp_at (f : Nat → Int) {n : Nat} {x : Int} (h : 0 ≤ x ∧ x < n) : at0 (fillUp f n n) x = f x.toNat := by
  rw [fillUp_all]
  simp [at0, List.getD, List.getElem?_range (show x.toNat < n by omega)]
theorem range_getD (l : List Int) (g : Int → Int) : (List.range l.length).map (fun i => g (l.getD i 0)) = l.map g := by
  apply List.ext_getElem
  · simp
  · intro i h1 h2
    simp at h2
    simp [List.getD, h2]
/-- The first j are mapped. -/
def mapUp (f : Int → Int) (l : List Int) (j : Nat) : List Int := (l.take j).map f ++ l.drop j
@[simp] theorem mapUp_length (f : Int → Int) (l : List Int) (j : Nat) : (mapUp f l j).length = l.length := by simp [mapUp]; omega
theorem mapUp_zero (f : Int → Int) (l : List Int) : mapUp f l 0 = l := by simp [mapUp]
theorem mapUp_all (f : Int → Int) (l : List Int) : mapUp f l l.length = l.map f := by simp [mapUp]
theorem mapUp_get (f : Int → Int) (l : List Int) {j : Nat} (h : j < l.length) : (mapUp f l j)[j]? = l[j]? := by
  unfold mapUp
  rw [List.getElem?_append_right (by simp; omega)]
  simp
  congr 1
  omega
theorem mapUp_set (f : Int → Int) (l : List Int) {j : Nat} (h : j < l.length) : (mapUp f l j).set j (f l[j]) = mapUp f l (j + 1) := by
  apply List.ext_getElem?
  intro i
  unfold mapUp
  rw [List.getElem?_set]
  by_cases hi : j = i
  · subst hi
    rw [if_pos rfl, if_pos (by simp; omega)]
    rw [List.getElem?_append_left (by simp; omega)]
    simp [h]
  · rw [if_neg hi]
    by_cases h2 : i < j
    · rw [List.getElem?_append_left (by simp; omega), List.getElem?_append_left (by simp; omega)]
      simp [h2, show i < j + 1 by omega]
    · rw [List.getElem?_append_right (by simp; omega), List.getElem?_append_right (by simp; omega)]
      simp
      congr 1
      omega

/-! ### what is kept -/
theorem liveUp_mem {keep : List Bool} {k : Nat} {x : Int} : x ∈ liveUp keep k ↔ 0 ≤ x ∧ x < k ∧ sees keep x = true := by
  unfold liveUp
  rw [List.mem_map]
  constructor
  · rintro ⟨i, hi, rfl⟩
    rw [List.mem_filter, List.mem_range] at hi
    exact ⟨by omega, by omega, hi.2⟩
  · rintro ⟨h1, h2, h3⟩
    refine ⟨x.toNat, ?_, by omega⟩
    rw [List.mem_filter, List.mem_range, Int.toNat_of_nonneg h1]
    exact ⟨by omega, h3⟩
theorem liveUp_rank {keep : List Bool} {k y : Nat} (hy : y < k) (hs : sees keep (y : Int) = true) : (liveUp keep k)[(liveUp keep y).length]? = some (y : Int) := by
  induction k with
  | zero => omega
  | succ k ih =>
    rw [liveUp_succ]
    by_cases h : y = k
    · subst h
      rw [if_pos hs]
      simp
    · have ih := ih (by omega)
      split
      · have := (List.getElem?_eq_some_iff.1 ih).1
        rw [List.getElem?_append_left this]
        exact ih
      · exact ih
theorem liveUp_rank' {keep : List Bool} {k i : Nat} {y : Int} (h : (liveUp keep k)[i]? = some y) : rankK keep y = i := by
  induction k with
  | zero => simp [liveUp_zero] at h
  | succ k ih =>
    rw [liveUp_succ] at h
    split at h
    · rw [List.getElem?_append] at h
      split at h
      · exact ih h
      · rename_i h1 h2
        have hl := (List.getElem?_eq_some_iff.1 h).1
        simp at hl
        have hi : i = (liveUp keep k).length := by omega
        subst hi
        simp at h
        subst h
        simp [rankK]
    · exact ih h
theorem liveUp_mono {keep : List Bool} {a b : Nat} (h : a ≤ b) : (liveUp keep a).length ≤ (liveUp keep b).length := by
  induction b with
  | zero => have : a = 0 := by omega
            subst this; exact Nat.le_refl _
  | succ b ih =>
    by_cases hb : a = b + 1
    · subst hb; exact Nat.le_refl _
    · have := ih (by omega)
      rw [liveUp_succ]
      split
      · simp; omega
      · exact this
theorem rank_lt {keep : List Bool} {k : Nat} {y : Int} (hy : 0 ≤ y ∧ y < k) (hs : sees keep y = true) : 0 ≤ rankK keep y ∧ rankK keep y < (liveUp keep k).length := by
  have h := liveUp_rank (keep := keep) (k := k) (y := y.toNat) (by omega) (by rw [Int.toNat_of_nonneg hy.1]; exact hs)
  have := (List.getElem?_eq_some_iff.1 h).1
  unfold rankK
  omega
theorem slideAll_at {ns : List Nd} {keep : List Bool} {is : List Int} {i : Nat} {m : Nd} (h : (slideAll ns keep is)[i]? = some m) : ∃ (y : Int) (n : Nd), (liveUp keep ns.length)[i]? = some y ∧ ndAt ns y = some n ∧ sees keep y = true ∧ m = slideNd keep is n := by
  unfold slideAll slideUp at h
  rw [List.getElem?_map] at h
  cases hy : (liveUp keep ns.length)[i]? with
  | none => rw [hy] at h; cases h
  | some y =>
    rw [hy] at h
    simp only [Option.map_some, Option.some.injEq] at h
    obtain ⟨h1, h2, h3⟩ := liveUp_mem.1 (List.mem_of_getElem? hy)
    obtain ⟨n, hn, hn2⟩ := ndAt_of (inR_iff.2 ⟨h1, h2⟩)
    refine ⟨y, n, rfl, hn, h3, ?_⟩
    rw [← h]
    simp [List.getD, hn2]
theorem slideAll_rank {ns : List Nd} {keep : List Bool} {is : List Int} {y : Int} {n : Nd} (hn : ndAt ns y = some n) (hs : sees keep y = true) : ndAt (slideAll ns keep is) (rankK keep y) = some (slideNd keep is n) := by
  obtain ⟨h1, h2⟩ := ndAt_inR hn
  have h1 := inR_iff.1 h1
  have h := liveUp_rank (keep := keep) (k := ns.length) (y := y.toNat) (by omega) (by rw [Int.toNat_of_nonneg h1.1]; exact hs)
  rw [Int.toNat_of_nonneg h1.1] at h
  unfold ndAt slideAll slideUp
  rw [if_pos (rank_lt h1 hs).1]
  rw [List.getElem?_map]
  have : (rankK keep y).toNat = (liveUp keep y.toNat).length := by simp [rankK]
  rw [this, h]
  simp only [Option.map_some, List.getD_eq_getElem?_getD, h2, Option.getD_some]
/-- What is kept is an application, and all right beneath it is kept. -/
structure KeepOk (ns : List Nd) (is : List Int) (keep : List Bool) : Prop where
  app : ∀ y n, ndAt ns y = some n → sees keep y = true → n.pts = false
  down : ∀ y n, ndAt ns y = some n → sees keep y = true → ∀ b ∈ n.args, sees keep (at0 is b) = true
theorem keepOk_of {ns : List Nd} {is roots : List Int} (hs : Sane ns) (hi : IsL ns is) (hr : okRoots ns roots = true) : KeepOk ns is (keepOf ns is roots) := by
  have happ : ∀ y n, ndAt ns y = some n → KeptP ns is roots y → n.pts = false := by
    rintro y n hn ⟨f, hf, hfy⟩
    have : ∃ m, ndAt ns y = some m ∧ m.pts = false := hfy.closed (P := fun z => ∃ m, ndAt ns z = some m ∧ m.pts = false) (fun x d _ hd => by
      unfold nextI at hd
      split at hd
      · rename_i n' hn'
        obtain ⟨z, hz, rfl⟩ := List.mem_map.1 hd
        exact (hi.is (hs.arg (ndAt_mem hn') hz)).end_
      · simp at hd) (by
      obtain ⟨r, hr2, rfl⟩ := List.mem_map.1 hf
      exact (hi.is (List.all_eq_true.1 hr r hr2)).end_)
    obtain ⟨m, h1, h2⟩ := this
    rw [hn] at h1
    injection h1 with h1
    rw [h1]; exact h2
  refine ⟨fun y n hn hy => happ y n hn ((keepOf_sees (inR_iff.1 (ndAt_inR hn).1)).1 hy), fun y n hn hy b hb => ?_⟩
  obtain ⟨f, hf, hfy⟩ := (keepOf_sees (inR_iff.1 (ndAt_inR hn).1)).1 hy
  refine (keepOf_sees (inR_iff.1 (hi.inR (hs.arg (ndAt_mem hn) hb)))).2 ⟨f, hf, hfy.trans (.step ?_ (.refl _))⟩
  unfold nextI
  rw [hn]
  exact List.mem_map.2 ⟨b, hb, rfl⟩
theorem Is.height {ns : List Nd} {r : Int → Nat} (hr : ∀ (a : Int) (n : Nd), ndAt ns a = some n → ∀ d ∈ n.down, r d < r a) {a b : Int} (h : Is ns a b) : r b ≤ r a := by
  induction h with
  | app => exact Nat.le_refl _
  | @ptr a' b' n' h1 h2 _ ih => have := hr a' n' h1 n'.to (by simp [Nd.down, h2]); omega
theorem slide_good {room : Int} {ns : List Nd} {is : List Int} {keep : List Bool} (hg : Good room ns) (hi : IsL ns is) (hk : KeepOk ns is keep) : Good room (slideAll ns keep is) := by
  have hlen : (slideAll ns keep is).length = (liveUp keep ns.length).length := slideUp_length _ _ _ _
  have hs := hg.sane
  refine ⟨fun m hm => ?_, ?_, ?_⟩
  · obtain ⟨i, hi2⟩ := List.getElem?_of_mem hm
    obtain ⟨y, n, h1, h2, h3, rfl⟩ := slideAll_at hi2
    obtain ⟨m1, m2, m3, m4, m5, m6, m7⟩ := hg.may n (ndAt_mem h2)
    have hp := hk.app y n h2 h3
    refine ⟨m1, by simpa [slideNd] using m2, m3, m4, fun a ha => ?_, fun hq => ?_, fun _ => m7 hp⟩
    · unfold slideNd at ha
      obtain ⟨b, hb, rfl⟩ := List.mem_map.1 ha
      rw [hlen]
      exact rank_lt (inR_iff.1 (hi.inR (hs.arg (ndAt_mem h2) hb))) (hk.down y n h2 h3 b hb)
    · have : n.pts = true := hq
      rw [hp] at this; cases this
  · obtain ⟨r, hr⟩ := hg.acyc
    refine ⟨fun i => r (at0 (liveUp keep ns.length) i), fun a m ha d hd => ?_⟩
    obtain ⟨ha1, ha2⟩ := ndAt_inR ha
    obtain ⟨y, n, h1, h2, h3, rfl⟩ := slideAll_at ha2
    have hp := hk.app y n h2 h3
    have hd2 : d ∈ (slideNd keep is n).args := by
      unfold Nd.down at hd
      have : (slideNd keep is n).pts = false := hp
      rw [this] at hd
      simpa using hd
    unfold slideNd at hd2
    obtain ⟨b, hb, rfl⟩ := List.mem_map.1 hd2
    have hbi := hs.arg (ndAt_mem h2) hb
    have hz := inR_iff.1 (hi.inR hbi)
    have e1 : at0 (liveUp keep ns.length) a = y := by
      simp [at0, List.getD, h1]
    have hbk := hk.down y n h2 h3 b hb
    have e2 : at0 (liveUp keep ns.length) (rankK keep (at0 is b)) = at0 is b := by
      have := liveUp_rank (keep := keep) (k := ns.length) (y := (at0 is b).toNat) (by omega) (by rw [Int.toNat_of_nonneg hz.1]; exact hbk)
      rw [Int.toNat_of_nonneg hz.1] at this
      have e : (rankK keep (at0 is b)).toNat = (liveUp keep (at0 is b).toNat).length := by simp [rankK]
      generalize at0 is b = z at *
      unfold at0
      rw [List.getD_eq_getElem?_getD, e, this]
      rfl
    dsimp only
    rw [e1, e2]
    have h5 := (hi.is hbi).height hr
    have h6 := hr y n h2 b (by unfold Nd.down; rw [hp]; simpa using hb)
    omega
  · rw [hlen]
    have := liveUp_le keep ns.length
    have := hg.len
    omega
end Go.Proofs.Ytooalgnppnmeaaa
