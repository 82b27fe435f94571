/- Nodes go when nothing beneath them is left: all go just if no node is beneath itself. Plain lists. -/
import Derived.Test.YtooalgnppnmeaaaGood
namespace Go.Proofs.Ytooalgnppnmeaaa

/-- How many of a list have not gone. -/
def left (g : List Bool) (l : List Int) : Nat := l.countP fun d => !sees g d
def at0 (l : List Int) (x : Int) : Int := l.getD x.toNat 0
def rowAt (ab : List (List Int)) (x : Int) : List Int := ab.getD x.toNat []

theorem left_zero {g : List Bool} {l : List Int} : left g l = 0 ↔ allS g l = true := by
  unfold left allS
  rw [List.countP_eq_zero, List.all_eq_true]
  constructor
  · intro h d hd; simpa using h d hd
  · intro h d hd; simpa using h d hd
theorem left_set {g : List Bool} {l : List Int} {x : Int} (hx : 0 ≤ x ∧ x < g.length) (hg : sees g x = false) (hl : ∀ d ∈ l, 0 ≤ d) : left (g.set x.toNat true) l + l.count x = left g l := by
  induction l with
  | nil => rfl
  | cons d l ih =>
    have ih := ih (fun e he => hl e (List.mem_cons_of_mem _ he))
    have hd := hl d List.mem_cons_self
    unfold left at ih ⊢
    simp only [List.countP_cons, List.count_cons]
    by_cases h : d = x
    · subst h
      have h1 : sees (g.set d.toNat true) d = true := (sees_set hx hd).2 (.inl rfl)
      simp only [h1, hg]
      simp
      omega
    · have h1 : sees (g.set x.toNat true) d = sees g d := by
        rw [Bool.eq_iff_iff, sees_set hx hd]
        simp [h]
      rw [h1]
      have : (d == x) = false := by simpa using h
      rw [this]
      simp
      omega
theorem left_none {n : Nat} {l : List Int} : left (List.replicate n false) l = l.length := by
  have no : ∀ x : Int, sees (List.replicate n false) x = false := by
    intro x
    simp [sees, List.getD, List.getElem?_replicate]
    split <;> rfl
  unfold left
  rw [List.countP_eq_length]
  intro d _
  rw [no]; rfl

/-- Who stands right above each. -/
structure AboveOk (ns : List Nd) (ab : List (List Int)) : Prop where
  len : ab.length = ns.length
  cnt : ∀ (x i : Int) (m : Nd), inR ns x = true → ndAt ns i = some m → (rowAt ab x).count i = m.down.count x
  inn : ∀ (x i : Int), i ∈ rowAt ab x → inR ns i = true

/-- In the middle of a step: rest is what is still to be told of the last one that went. -/
structure Kahn (ns : List Nd) (g : List Bool) (wants : List Int) (free : List Int) (rest : List Int) : Prop where
  ok : SoundOk ns g
  wl : wants.length = ns.length
  ws : ∀ (x : Int) (m : Nd), ndAt ns x = some m → at0 wants x = (left g m.down + rest.count x : Nat)
  fr : ∀ x : Int, inR ns x = true → (x ∈ free ↔ sees g x = false ∧ at0 wants x = 0)
  nd : free.Nodup
  inn : ∀ x ∈ free, inR ns x = true
  ri : ∀ x ∈ rest, inR ns x = true

theorem sees_gone {ns : List Nd} {g : List Bool} {wants free rest : List Int} (h : Kahn ns g wants free rest) (hr : rest = []) {x : Int} {m : Nd} (hm : ndAt ns x = some m) (hx : sees g x = true) : at0 wants x = 0 := by
  rw [h.ws x m hm, hr]
  obtain ⟨_, r, hr2⟩ := h.ok
  have : left g m.down = 0 := left_zero.2 (List.all_eq_true.2 fun d hd => (hr2 x m hm hx d hd).1)
  rw [this]; rfl
/-- One goes. -/
theorem Kahn.pop {ns : List Nd} (hi : Inn ns) {ab : List (List Int)} (hab : AboveOk ns ab) {g : List Bool} {wants free : List Int} {x : Int} (h : Kahn ns g wants (free ++ [x]) []) :
    Kahn ns (g.set x.toNat true) wants free (rowAt ab x) ∧ (g.set x.toNat true).count false + 1 = g.count false ∧ (∀ y, sees (g.set x.toNat true) y = true → inR ns y = true → at0 wants y = 0) := by
  have hxi := h.inn x (by simp)
  obtain ⟨n, hn, _⟩ := ndAt_of hxi
  obtain ⟨hxg, hw0⟩ := (h.fr x hxi).1 (by simp)
  have hl0 : left g n.down = 0 := by
    have := h.ws x n hn
    rw [hw0] at this
    simp at this
    omega
  have hx := inR_iff.1 hxi
  have hxl : 0 ≤ x ∧ x < g.length := by rw [h.ok.1]; exact hx
  obtain ⟨h1, h2⟩ := h.ok.step hi hn hxg (left_zero.1 hl0)
  have hnd : free.Nodup ∧ x ∉ free := by
    have := h.nd
    rw [List.nodup_append] at this
    exact ⟨this.1, fun hx => this.2.2 x hx x (by simp) rfl⟩
  have hpos : ∀ (m : Nd), m ∈ ns → ∀ d ∈ m.down, 0 ≤ d := fun m hm d hd => (inR_iff.1 (hi m hm d hd)).1
  refine ⟨⟨h1, h.wl, fun y m hm => ?_, fun y hy => ?_, hnd.1, fun y hy => h.inn y (List.mem_append_left _ hy), fun y hy => hab.inn x y hy⟩, h2, fun y hy hyr => ?_⟩
  · rw [h.ws y m hm, hab.cnt x y m hxi hm, ← left_set hxl hxg (hpos m (ndAt_mem hm))]
    simp
  · have h3 := h.fr y hy
    have hy0 := (inR_iff.1 hy).1
    rw [List.mem_append] at h3
    constructor
    · intro hf
      have hne : y ≠ x := fun e => hnd.2 (e ▸ hf)
      have := h3.1 (.inl hf)
      refine ⟨?_, this.2⟩
      cases hq : sees (g.set x.toNat true) y with
      | false => rfl
      | true =>
        rcases (sees_set hxl hy0).1 hq with e | e
        · exact absurd e hne
        · rw [this.1] at e; cases e
    · rintro ⟨h4, h5⟩
      have hne : y ≠ x := fun e => by
        have := (sees_set hxl hy0).2 (.inl e)
        rw [h4] at this; cases this
      have h6 : sees g y = false := by
        cases hq : sees g y with
        | false => rfl
        | true =>
          have := (sees_set hxl hy0).2 (.inr hq)
          rw [h4] at this; cases this
      rcases h3.2 ⟨h6, h5⟩ with h7 | h7
      · exact h7
      · exact absurd (by simpa using h7) hne
  · rcases (sees_set hxl (inR_iff.1 hyr).1).1 hy with rfl | e
    · exact hw0
    · obtain ⟨m, hm, _⟩ := ndAt_of hyr
      exact sees_gone h rfl hm e
theorem at0_set {l : List Int} {i : Int} {v : Int} (hi : 0 ≤ i ∧ i < l.length) {x : Int} (hx : 0 ≤ x) : at0 (l.set i.toNat v) x = if x = i then v else at0 l x := by
  unfold at0
  by_cases h : x = i
  · subst h
    rw [if_pos rfl]
    simp [List.getD, show x.toNat < l.length by omega]
  · rw [if_neg h]
    have : i.toNat ≠ x.toNat := by omega
    simp [List.getD, this]
/-- It is told to one above it. -/
theorem Kahn.tell {ns : List Nd} {g : List Bool} {wants free rest : List Int} {i : Int} (h : Kahn ns g wants free (i :: rest)) (hz : ∀ y, sees g y = true → inR ns y = true → at0 wants y = 0) :
    0 < at0 wants i ∧ (0 ≤ i ∧ i < ns.length) ∧ Kahn ns g (wants.set i.toNat (at0 wants i - 1)) (if at0 wants i - 1 = 0 then free ++ [i] else free) rest ∧
      (∀ y, sees g y = true → inR ns y = true → at0 (wants.set i.toNat (at0 wants i - 1)) y = 0) := by
  have hii := h.ri i (by simp)
  have hi := inR_iff.1 hii
  obtain ⟨n, hn, _⟩ := ndAt_of hii
  have hw := h.ws i n hn
  simp only [List.count_cons_self] at hw
  have hpos : 0 < at0 wants i := by omega
  have hnf : i ∉ free := fun hf => by have := ((h.fr i hii).1 hf).2; omega
  have hng : sees g i = false := by
    cases hq : sees g i with
    | false => rfl
    | true => have := hz i hq hii; omega
  have hil : 0 ≤ i ∧ i < wants.length := by rw [h.wl]; exact hi
  have hws : ∀ (x : Int) (m : Nd), ndAt ns x = some m → at0 (wants.set i.toNat (at0 wants i - 1)) x = (left g m.down + rest.count x : Nat) := by
    intro x m hm
    have hx0 := (inR_iff.1 (ndAt_inR hm).1).1
    rw [at0_set hil hx0]
    have := h.ws x m hm
    rw [List.count_cons] at this
    split
    · rename_i e
      subst e
      simp at this
      omega
    · rename_i e
      have hb : (i == x) = false := by simpa using Ne.symm e
      rw [hb] at this
      simpa using this
  refine ⟨hpos, hi, ⟨h.ok, by simpa using h.wl, hws, fun x hx => ?_, ?_, ?_, fun y hy => h.ri y (List.mem_cons_of_mem _ hy)⟩, fun y hy hyr => ?_⟩
  · have hx0 := (inR_iff.1 hx).1
    rw [at0_set hil hx0]
    by_cases hxi : x = i
    · subst hxi
      rw [if_pos rfl]
      split
      · rename_i h0
        exact ⟨fun _ => ⟨hng, h0⟩, fun _ => by simp⟩
      · rename_i h0
        exact ⟨fun hf => absurd hf hnf, fun h => absurd h.2 h0⟩
    · rw [if_neg hxi]
      have h3 := h.fr x hx
      split
      · rw [List.mem_append]
        constructor
        · rintro (hf | hf)
          · exact h3.1 hf
          · exact absurd (by simpa using hf) hxi
        · intro hf; exact .inl (h3.2 hf)
      · exact h3
  · split
    · rw [List.nodup_append]
      refine ⟨h.nd, by simp, fun a ha b hb => ?_⟩
      have : b = i := by simpa using hb
      subst this
      rintro rfl
      exact hnf ha
    · exact h.nd
  · intro y hy
    split at hy
    · rcases List.mem_append.1 hy with hy | hy
      · exact h.inn y hy
      · have : y = i := by simpa using hy
        rw [this]; exact hii
    · exact h.inn y hy
  · rw [at0_set hil (inR_iff.1 hyr).1]
    split
    · rename_i e
      rw [e, hng] at hy; cases hy
    · exact hz y hy hyr
/-- The end. -/
theorem Kahn.done {ns : List Nd} (hi : Inn ns) {g : List Bool} {wants : List Int} (h : Kahn ns g wants [] []) : g.count false = 0 ↔ Acyc ns := by
  constructor
  · intro h0
    refine h.ok.all fun x hx => ?_
    have hx2 := inR_iff.1 hx
    have hl : x.toNat < g.length := by rw [h.ok.1]; omega
    have := sees_get hl
    cases hq : sees g x with
    | true => rfl
    | false =>
      rw [hq] at this
      have : 0 < g.count false := List.count_pos_iff.2 (List.mem_of_getElem? this)
      omega
  · intro hA
    rw [List.count_eq_zero]
    intro hm
    obtain ⟨i, hi2⟩ := List.getElem?_of_mem hm
    have hl := (List.getElem?_eq_some_iff.1 hi2).1
    rw [h.ok.1] at hl
    have hx : inR ns (i : Int) = true := inR_iff.2 ⟨by omega, by omega⟩
    have := stuck_all hi (fun x hx n hn hs => by
      have h1 := h.fr x hx
      have h2 := h.ws x n hn
      cases hq : allS g n.down with
      | false => rfl
      | true =>
        rw [left_zero.2 hq] at h2
        have := h1.2 ⟨hs, by simpa using h2⟩
        simp at this) hA i hx
    have h3 := sees_get (s := g) (x := (i : Int)) (by rw [h.ok.1]; omega)
    rw [this, Int.toNat_natCast, hi2] at h3
    cases h3

/-- While the lists are filled: k nodes are read. -/
structure Fill (ns : List Nd) (k : Nat) (wants : List Int) (ab : List (List Int)) (free : List Int) : Prop where
  wl : wants.length = ns.length
  al : ab.length = ns.length
  ws : ∀ (x : Int) (m : Nd), ndAt ns x = some m → x < k → at0 wants x = m.down.length
  cnt : ∀ (x i : Int) (m : Nd), inR ns x = true → ndAt ns i = some m → (rowAt ab x).count i = if i < k then m.down.count x else 0
  ain : ∀ (x i : Int), i ∈ rowAt ab x → 0 ≤ i ∧ i < k
  fr : ∀ (x : Int) (m : Nd), ndAt ns x = some m → (x ∈ free ↔ x < k ∧ m.down = [])
  nd : free.Nodup
  fin : ∀ x ∈ free, 0 ≤ x ∧ x < k
/-- In the middle of a node: done are the first of what is right beneath it. -/
structure FillIn (ns : List Nd) (k : Nat) (done : List Int) (ab : List (List Int)) : Prop where
  al : ab.length = ns.length
  cnt : ∀ (x i : Int) (m : Nd), inR ns x = true → ndAt ns i = some m → (rowAt ab x).count i = if i < k then m.down.count x else if i = k then done.count x else 0
  ain : ∀ (x i : Int), i ∈ rowAt ab x → 0 ≤ i ∧ i ≤ k

theorem rowAt_set {ab : List (List Int)} {i : Int} {l : List Int} (hi : 0 ≤ i ∧ i < ab.length) {x : Int} (hx : 0 ≤ x) : rowAt (ab.set i.toNat l) x = if x = i then l else rowAt ab x := by
  unfold rowAt
  by_cases h : x = i
  · subst h
    rw [if_pos rfl]
    simp [List.getD, show x.toNat < ab.length by omega]
  · rw [if_neg h]
    have : i.toNat ≠ x.toNat := by omega
    simp [List.getD, this]
theorem FillIn.begin {ns : List Nd} {k : Nat} {wants : List Int} {ab : List (List Int)} {free : List Int} (h : Fill ns k wants ab free) : FillIn ns k [] ab :=
  ⟨h.al, fun x i m hx hm => by rw [h.cnt x i m hx hm]; split; rfl; simp, fun x i hi => by have := h.ain x i hi; omega⟩
theorem FillIn.step {ns : List Nd} {k : Nat} {done : List Int} {ab : List (List Int)} {a : Int} (h : FillIn ns k done ab) (ha : inR ns a = true) : FillIn ns k (done ++ [a]) (ab.set a.toNat (rowAt ab a ++ [(k : Int)])) := by
  have ha2 := inR_iff.1 ha
  have hal : 0 ≤ a ∧ a < ab.length := by rw [h.al]; exact ha2
  refine ⟨by simpa using h.al, fun x i m hx hm => ?_, fun x i hi => ?_⟩
  · rw [rowAt_set hal (inR_iff.1 hx).1]
    by_cases hxa : x = a
    · subst hxa
      rw [if_pos rfl, List.count_append, h.cnt x i m hx hm, List.count_append]
      by_cases h1 : i < k
      · rw [if_pos h1, if_pos h1]
        have : ((k : Int) == i) = false := by simp; omega
        simp [List.count_cons, this]
      · rw [if_neg h1, if_neg h1]
        by_cases h2 : i = k
        · rw [if_pos h2, if_pos h2]
          simp [h2]
        · rw [if_neg h2, if_neg h2]
          have : ((k : Int) == i) = false := by simpa using Ne.symm h2
          simp [List.count_cons, this]
    · rw [if_neg hxa, h.cnt x i m hx hm, List.count_append]
      have : (a == x) = false := by simpa using Ne.symm hxa
      simp [List.count_cons, this]
  · by_cases hx0 : 0 ≤ x
    · rw [rowAt_set hal hx0] at hi
      split at hi
      · rcases List.mem_append.1 hi with hi | hi
        · exact h.ain a i hi
        · have : i = k := by simpa using hi
          omega
      · exact h.ain x i hi
    · by_cases h1 : x.toNat = a.toNat
      · unfold rowAt at hi
        rw [h1] at hi
        have e : (ab.set a.toNat (rowAt ab a ++ [(k : Int)])).getD a.toNat [] = rowAt ab a ++ [(k : Int)] := by
          simp [List.getD, show a.toNat < ab.length by omega]
        unfold rowAt at e
        rw [e] at hi
        rcases List.mem_append.1 hi with hi | hi
        · exact h.ain a i hi
        · have : i = k := by simpa using hi
          omega
      · have e : rowAt (ab.set a.toNat (rowAt ab a ++ [(k : Int)])) x = rowAt ab x := by
          unfold rowAt
          simp [List.getD, Ne.symm h1]
        rw [e] at hi
        exact h.ain x i hi
theorem Fill.begin (ns : List Nd) : Fill ns 0 (List.replicate ns.length 0) (List.replicate ns.length []) [] := by
  have er : ∀ x : Int, rowAt (List.replicate ns.length []) x = [] := by
    intro x
    simp [rowAt, List.getD, List.getElem?_replicate]
    split <;> rfl
  exact ⟨by simp, by simp, fun x m hm h => by have := inR_iff.1 (ndAt_inR hm).1; omega, fun x i m _ hm => by rw [er, if_neg (by have := inR_iff.1 (ndAt_inR hm).1; omega)]; rfl,
    fun x i h => (by rw [er] at h; simp at h), fun x m hm => ⟨fun h => by simp at h, fun h => by have := inR_iff.1 (ndAt_inR hm).1; omega⟩, by simp, by simp⟩
/-- A node has been read. -/
theorem Fill.next {ns : List Nd} {k : Nat} {wants : List Int} {ab ab' : List (List Int)} {free : List Int} (h : Fill ns k wants ab free) {n : Nd} (hn : ndAt ns (k : Int) = some n) (h2 : FillIn ns k n.down ab') :
    Fill ns (k + 1) (wants.set k n.down.length) ab' (if n.down = [] then free ++ [(k : Int)] else free) := by
  have hk := inR_iff.1 (ndAt_inR hn).1
  have hkw : 0 ≤ (k : Int) ∧ (k : Int) < wants.length := by rw [h.wl]; exact hk
  refine ⟨by simpa using h.wl, h2.al, fun x m hm hx => ?_, fun x i m hx hm => ?_, fun x i hi => ?_, fun x m hm => ?_, ?_, fun x hx => ?_⟩
  · have := at0_set (v := (n.down.length : Int)) hkw (x := x) (inR_iff.1 (ndAt_inR hm).1).1
    rw [Int.toNat_natCast] at this
    rw [this]
    split
    · rename_i e
      subst e
      rw [hn] at hm; injection hm with hm; rw [hm]
    · exact h.ws x m hm (by omega)
  · rw [h2.cnt x i m hx hm]
    by_cases h3 : i < k
    · rw [if_pos h3, if_pos (by omega)]
    · rw [if_neg h3]
      by_cases h4 : i = k
      · subst h4
        rw [hn] at hm; injection hm with hm; subst hm
        rw [if_pos rfl, if_pos (by omega)]
      · rw [if_neg h4, if_neg (by omega)]
  · have := h2.ain x i hi; omega
  · have h3 := h.fr x m hm
    by_cases hxk : x = k
    · subst hxk
      rw [hn] at hm; injection hm with hm; subst hm
      split
      · rename_i h0
        exact ⟨fun _ => ⟨by omega, h0⟩, fun _ => by simp⟩
      · rename_i h0
        exact ⟨fun hf => by have := (h3.1 hf).1; omega, fun hf => absurd hf.2 h0⟩
    · split
      · rw [List.mem_append]
        constructor
        · rintro (hf | hf)
          · have := h3.1 hf; exact ⟨by omega, this.2⟩
          · exact absurd (by simpa using hf) hxk
        · intro hf; exact .inl (h3.2 ⟨by omega, hf.2⟩)
      · exact ⟨fun hf => ⟨by have := (h3.1 hf).1; omega, (h3.1 hf).2⟩, fun hf => h3.2 ⟨by omega, hf.2⟩⟩
  · split
    · rw [List.nodup_append]
      refine ⟨h.nd, by simp, fun a ha b hb => ?_⟩
      have : b = k := by simpa using hb
      subst this
      rintro rfl
      have := (h.fin _ ha).2
      omega
    · exact h.nd
  · split at hx
    · rcases List.mem_append.1 hx with hx | hx
      · have := h.fin x hx; omega
      · have : x = k := by simpa using hx
        omega
    · have := h.fin x hx; omega
theorem Fill.kahn {ns : List Nd} {wants : List Int} {ab : List (List Int)} {free : List Int} (h : Fill ns ns.length wants ab free) : Kahn ns (List.replicate ns.length false) wants free [] ∧ AboveOk ns ab := by
  have no : ∀ x : Int, sees (List.replicate ns.length false) x = false := by
    intro x
    simp [sees, List.getD, List.getElem?_replicate]
    split <;> rfl
  refine ⟨⟨SoundOk.begin ns, h.wl, fun x m hm => ?_, fun x hx => ?_, h.nd, fun x hx => inR_iff.2 (h.fin x hx), by simp⟩, ⟨h.al, fun x i m hx hm => ?_, fun x i hi => inR_iff.2 (h.ain x i hi)⟩⟩
  · rw [h.ws x m hm (inR_iff.1 (ndAt_inR hm).1).2, left_none]; rfl
  · obtain ⟨m, hm, _⟩ := ndAt_of hx
    rw [h.fr x m hm, h.ws x m hm (inR_iff.1 hx).2, no]
    constructor
    · rintro ⟨_, h1⟩; exact ⟨rfl, by rw [h1]; rfl⟩
    · rintro ⟨_, h1⟩; exact ⟨(inR_iff.1 hx).2, List.eq_nil_of_length_eq_zero (by omega)⟩
  · rw [h.cnt x i m hx hm, if_pos (inR_iff.1 (ndAt_inR hm).1).2]
end Go.Proofs.Ytooalgnppnmeaaa
