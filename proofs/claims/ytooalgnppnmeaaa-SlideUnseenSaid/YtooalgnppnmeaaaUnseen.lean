/- Two heaps, of which one is collected, as plain data. -/
import Derived.Test.YtooalgnppnmeaaaSlideT
import Derived.Test.YtooalgnppnmeaaaH4
import Derived.Test.YtooalgnppnmeaaaH2
import Derived.Test.YtooalgnppnmeaaaCollect
namespace Go.Proofs.Ytooalgnppnmeaaa

theorem ndAt_up {ns : List Nd} {a : Int} {n m : Nd} (h : ndAt ns a = some n) : ndAt (ns ++ [m]) a = some n := by
  obtain ⟨h1, h2⟩ := ndAt_inR h
  have := inR_iff.1 h1
  unfold ndAt
  rw [if_pos this.1, List.getElem?_append_left (by omega)]
  exact h2
theorem ndAt_last (ns : List Nd) (m : Nd) : ndAt (ns ++ [m]) (ns.length : Int) = some m := by
  unfold ndAt
  rw [if_pos (by omega)]
  simp
theorem Is.up {ns : List Nd} {a b : Int} {m : Nd} (h : Is ns a b) : Is (ns ++ [m]) a b := by
  induction h with
  | app h1 h2 => exact .app (ndAt_up h1) h2
  | ptr h1 h2 _ ih => exact .ptr (ndAt_up h1) h2 ih
theorem Is.of_app {ns : List Nd} {a b : Int} {n : Nd} (h : Is ns a b) (h1 : ndAt ns a = some n) (h2 : n.pts = false) : b = a := h.unique (.app h1 h2)

/-- Two lists' nodes that stand for one another, each for one alone. -/
structure Sim (ns ms : List Nd) (R : Int → Int → Prop) : Prop where
  app : ∀ x y, R x y → ∃ n k, ndAt ns x = some n ∧ ndAt ms y = some k ∧ n.pts = false ∧ k.pts = false ∧ n.sym = k.sym ∧ n.args.length = k.args.length
  down : ∀ x y, R x y → ∀ n k, ndAt ns x = some n → ndAt ms y = some k → ∀ (i : Nat) c d, n.args[i]? = some c → k.args[i]? = some d → ∃ c' d', Is ns c c' ∧ Is ms d d' ∧ R c' d'
  inj : ∀ x y x' y', R x y → R x' y' → (x = x' ↔ y = y')
/-- Two handles. -/
def Hand (ns ms : List Nd) (R : Int → Int → Prop) (x y : Int) : Prop := ∃ x' y', Is ns x x' ∧ Is ms y y' ∧ R x' y'
theorem Sim.symm {ns ms : List Nd} {R : Int → Int → Prop} (h : Sim ns ms R) : Sim ms ns (fun y x => R x y) := by
  refine ⟨fun y x hr => ?_, fun y x hr k n hk hn i d c hd hc => ?_, fun y x y' x' h1 h2 => (h.inj x y x' y' h1 h2).symm⟩
  · obtain ⟨n, k, h1, h2, h3, h4, h5, h6⟩ := h.app x y hr
    exact ⟨k, n, h2, h1, h4, h3, h5.symm, h6.symm⟩
  · obtain ⟨c', d', h1, h2, h3⟩ := h.down x y hr n k hn hk i c d hc hd
    exact ⟨d', c', h2, h1, h3⟩
theorem Sim.bisim {ns ms : List Nd} {R : Int → Int → Prop} (h : Sim ns ms R) (hs : Sane ns) : Bisim ns ms R :=
  ⟨fun x y hr => by
    obtain ⟨n, k, h1, h2, _, _, h5, h6⟩ := h.app x y hr
    exact ⟨n, k, h1, h2, h5, h6, hs.few n (ndAt_mem h1)⟩, h.down⟩
/-- What is reached in one is reached in the other. -/
theorem Sim.reach {ns ms : List Nd} {R : Int → Int → Prop} (h : Sim ns ms R) {p q : Int} (hpq : R p q) {c : Int} (hr : Reach ns c p) : ∀ d, Hand ns ms R c d → Reach ms d q := by
  induction hr with
  | refl =>
    rintro d ⟨c', d', h1, h2, h3⟩
    obtain ⟨n, k, e1, _, e3, _⟩ := h.app _ _ hpq
    have := h1.of_app e1 e3
    subst this
    have := (h.inj _ _ _ _ h3 hpq).1 rfl
    subst this
    exact h2.reach
  | @step x e a n h1 h2 _ ih =>
    rintro d ⟨c', d', i1, i2, i3⟩
    cases hp : n.pts with
    | true =>
      have he : e = n.to := by unfold Nd.down at h2; rw [if_pos hp] at h2; simpa using h2
      subst he
      refine ih hpq d ⟨c', d', ?_, i2, i3⟩
      cases i1 with
      | app j1 j2 => rw [h1] at j1; injection j1 with j1; subst j1; rw [hp] at j2; cases j2
      | ptr j1 j2 j3 => rw [h1] at j1; injection j1 with j1; subst j1; exact j3
    | false =>
      have hc := i1.of_app h1 hp
      subst hc
      have he : e ∈ n.args := by unfold Nd.down at h2; rw [if_neg (by rw [hp]; simp)] at h2; exact h2
      obtain ⟨i, hi⟩ := List.getElem?_of_mem he
      obtain ⟨n', k, e1, e2, _, e4, _, e6⟩ := h.app _ _ i3
      rw [h1] at e1
      injection e1 with e1
      subst e1
      have hl := (List.getElem?_eq_some_iff.1 hi).1
      have hf : k.args[i]? = some (k.args[i]'(by omega)) := List.getElem?_eq_getElem (by omega)
      obtain ⟨e', f', j1, j2, j3⟩ := h.down _ _ i3 n k h1 e2 i _ _ hi hf
      have := ih hpq _ ⟨e', f', j1, j2, j3⟩
      refine i2.reach.trans (.step e2 ?_ this)
      unfold Nd.down
      rw [if_neg (by rw [e4]; simp)]
      exact List.mem_of_getElem? hf
theorem Sim.reach_iff {ns ms : List Nd} {R : Int → Int → Prop} (h : Sim ns ms R) {p q c d : Int} (hpq : R p q) (hc : Hand ns ms R c d) : Reach ns c p ↔ Reach ms d q := by
  refine ⟨fun hr => h.reach hpq hr d hc, fun hr => h.symm.reach (p := q) (q := p) hpq hr c ?_⟩
  obtain ⟨c', d', h1, h2, h3⟩ := hc
  exact ⟨d', c', h2, h1, h3⟩

/-- A new application in each. -/
theorem Sim.make {ns ms : List Nd} {R : Int → Int → Prop} (h : Sim ns ms R) {sym : Int} {ps qs : List Int} (hl : ps.length = qs.length) (hh : ∀ (i : Nat) c d, ps[i]? = some c → qs[i]? = some d → Hand ns ms R c d) :
    Sim (ns ++ [⟨sym, ps, 0, false, 0⟩]) (ms ++ [⟨sym, qs, 0, false, 0⟩]) (fun x y => R x y ∨ (x = ns.length ∧ y = ms.length)) := by
  have out : ∀ x y, R x y → x < (ns.length : Int) ∧ y < (ms.length : Int) := fun x y hr => by
    obtain ⟨n, k, h1, h2, _⟩ := h.app x y hr
    exact ⟨(inR_iff.1 (ndAt_inR h1).1).2, (inR_iff.1 (ndAt_inR h2).1).2⟩
  refine ⟨?_, ?_, ?_⟩
  · rintro x y (hr | ⟨rfl, rfl⟩)
    · obtain ⟨n, k, h1, h2, h3⟩ := h.app x y hr
      exact ⟨n, k, ndAt_up h1, ndAt_up h2, h3⟩
    · exact ⟨_, _, ndAt_last _ _, ndAt_last _ _, rfl, rfl, rfl, hl⟩
  · rintro x y (hr | ⟨rfl, rfl⟩) n k hn hk i c d hc hd
    · obtain ⟨n', k', h1, h2, _⟩ := h.app x y hr
      have e1 := ndAt_up (m := ⟨sym, ps, 0, false, 0⟩) h1
      have e2 := ndAt_up (m := ⟨sym, qs, 0, false, 0⟩) h2
      rw [hn] at e1; rw [hk] at e2
      injection e1 with e1
      injection e2 with e2
      subst e1; subst e2
      obtain ⟨c', d', i1, i2, i3⟩ := h.down x y hr n k h1 h2 i c d hc hd
      exact ⟨c', d', i1.up, i2.up, .inl i3⟩
    · rw [ndAt_last] at hn hk
      injection hn with hn
      injection hk with hk
      subst hn; subst hk
      obtain ⟨c', d', i1, i2, i3⟩ := hh i c d hc hd
      exact ⟨c', d', i1.up, i2.up, .inl i3⟩
  · rintro x y x' y' (h1 | ⟨rfl, rfl⟩) (h2 | ⟨rfl, rfl⟩)
    · exact h.inj _ _ _ _ h1 h2
    · have := out _ _ h1; constructor <;> omega
    · have := out _ _ h2; constructor <;> omega
    · simp
theorem Hand.up {ns ms : List Nd} {R R' : Int → Int → Prop} {x y : Int} {m k : Nd} (h : Hand ns ms R x y) (hR : ∀ a b, R a b → R' a b) : Hand (ns ++ [m]) (ms ++ [k]) R' x y := by
  obtain ⟨x', y', h1, h2, h3⟩ := h
  exact ⟨x', y', h1.up, h2.up, hR _ _ h3⟩

/-- One node becomes an indirection. -/
theorem ndAt_put {ns : List Nd} {p a : Int} {n m : Nd} (h : ndAt ns a = some n) (hp : 0 ≤ p) (hne : a ≠ p) : ndAt (ns.set p.toNat m) a = some n := by
  obtain ⟨h1, h2⟩ := ndAt_inR h
  have := inR_iff.1 h1
  unfold ndAt
  rw [if_pos this.1, List.getElem?_set_ne (by omega)]
  exact h2
theorem ndAt_self {ns : List Nd} {p : Int} {m : Nd} (hp : inR ns p = true) : ndAt (ns.set p.toNat m) p = some m := by
  have := inR_iff.1 hp
  unfold ndAt
  rw [if_pos this.1, List.getElem?_set_self (by omega)]
theorem Is.off {ns : List Nd} {p c c' : Int} {m : Nd} (h : Is ns c c') (hp : 0 ≤ p) (hne : c' ≠ p) (happ : ∀ n, ndAt ns p = some n → n.pts = false) : Is (ns.set p.toNat m) c c' := by
  induction h with
  | app h1 h2 => exact .app (ndAt_put h1 hp hne) h2
  | @ptr a b n h1 h2 _ ih =>
    refine .ptr (ndAt_put h1 hp fun e => ?_) h2 (ih hne)
    subst e
    rw [happ n h1] at h2; cases h2
theorem Is.on {ns : List Nd} {p t c t' : Int} (h : Is ns c p) (hp : Ytooalgnppnmeaaa.inR ns p = true) (happ : ∀ n, ndAt ns p = some n → n.pts = false) (ht : Is (ns.set p.toNat ⟨0, [], 0, true, t⟩) t t') : Is (ns.set p.toNat ⟨0, [], 0, true, t⟩) c t' := by
  induction h with
  | app h1 h2 => exact .ptr (ndAt_self hp) rfl ht
  | @ptr a b n h1 h2 _ ih =>
    refine .ptr (ndAt_put h1 (inR_iff.1 hp).1 fun e => ?_) h2 (ih hp happ ht)
    subst e
    rw [happ n h1] at h2; cases h2
theorem Hand.point {ns ms : List Nd} {R : Int → Int → Prop} (h : Sim ns ms R) {p q b d x y : Int} (hpq : R p q) (hb : Hand ns ms R b d) (hn : ¬ Reach ns b p) (hx : Hand ns ms R x y) :
    Hand (ns.set p.toNat ⟨0, [], 0, true, b⟩) (ms.set q.toNat ⟨0, [], 0, true, d⟩) (fun u v => R u v ∧ u ≠ p) x y := by
  obtain ⟨n, k, e1, e2, e3, e4, _⟩ := h.app _ _ hpq
  have ip := (ndAt_inR e1).1
  have iq := (ndAt_inR e2).1
  have ap : ∀ z, ndAt ns p = some z → z.pts = false := fun z hz => by rw [e1] at hz; injection hz with hz; rw [← hz]; exact e3
  have aq : ∀ z, ndAt ms q = some z → z.pts = false := fun z hz => by rw [e2] at hz; injection hz with hz; rw [← hz]; exact e4
  have p0 := (inR_iff.1 ip).1
  have q0 := (inR_iff.1 iq).1
  obtain ⟨b', d', b1, b2, b3⟩ := hb
  have hbp : b' ≠ p := fun e => hn (e ▸ b1.reach)
  have hdq : d' ≠ q := fun e => hbp ((h.inj _ _ _ _ b3 hpq).2 e)
  obtain ⟨x', y', x1, x2, x3⟩ := hx
  by_cases hxp : x' = p
  · have hyq := (h.inj _ _ _ _ x3 hpq).1 hxp
    subst hxp; subst hyq
    exact ⟨b', d', x1.on ip ap (b1.off p0 hbp ap), x2.on iq aq (b2.off q0 hdq aq), b3, hbp⟩
  · have hyq : y' ≠ q := fun e => hxp ((h.inj _ _ _ _ x3 hpq).2 e)
    exact ⟨x', y', x1.off p0 hxp ap, x2.off q0 hyq aq, x3, hxp⟩
theorem Sim.point {ns ms : List Nd} {R : Int → Int → Prop} (h : Sim ns ms R) {p q b d : Int} (hpq : R p q) (hb : Hand ns ms R b d) (hn : ¬ Reach ns b p) :
    Sim (ns.set p.toNat ⟨0, [], 0, true, b⟩) (ms.set q.toNat ⟨0, [], 0, true, d⟩) (fun u v => R u v ∧ u ≠ p) := by
  obtain ⟨n0, k0, e1, e2, e3, e4, _⟩ := h.app _ _ hpq
  have p0 := (inR_iff.1 (ndAt_inR e1).1).1
  have q0 := (inR_iff.1 (ndAt_inR e2).1).1
  refine ⟨?_, ?_, fun x y x' y' h1 h2 => h.inj _ _ _ _ h1.1 h2.1⟩
  · rintro x y ⟨hr, hx⟩
    have hy : y ≠ q := fun e => hx ((h.inj _ _ _ _ hr hpq).2 e)
    obtain ⟨n, k, h1, h2, h3⟩ := h.app x y hr
    exact ⟨n, k, ndAt_put h1 p0 hx, ndAt_put h2 q0 hy, h3⟩
  · rintro x y ⟨hr, hx⟩ n k hn2 hk2 i c c2 hc hc2
    have hy : y ≠ q := fun e => hx ((h.inj _ _ _ _ hr hpq).2 e)
    obtain ⟨n', k', h1, h2, _⟩ := h.app x y hr
    have f1 := ndAt_put (m := ⟨0, [], 0, true, b⟩) h1 p0 hx
    have f2 := ndAt_put (m := ⟨0, [], 0, true, d⟩) h2 q0 hy
    rw [hn2] at f1; rw [hk2] at f2
    injection f1 with f1
    injection f2 with f2
    subst f1; subst f2
    exact Hand.point h hpq hb hn (h.down x y hr n k h1 h2 i c c2 hc hc2)

/-- The first one is collected. -/
def SlidR (ns : List Nd) (keep : List Bool) (R : Int → Int → Prop) (x y : Int) : Prop := ∃ x0, inR ns x0 = true ∧ sees keep x0 = true ∧ R x0 y ∧ x = rankK keep x0
theorem Hand.slide {ns ms : List Nd} {is : List Int} {keep : List Bool} {R : Int → Int → Prop} (hi : IsL ns is) (hk : KeepOk ns is keep) {x y : Int} (hx : Hand ns ms R x y) (hxr : inR ns x = true) (hs : sees keep (at0 is x) = true) :
    Hand (slideAll ns keep is) ms (SlidR ns keep R) (rankK keep (at0 is x)) y := by
  obtain ⟨x', y', x1, x2, x3⟩ := hx
  have e := (hi.is hxr).unique x1
  subst e
  obtain ⟨n, hn, _⟩ := ndAt_of (hi.inR hxr)
  exact ⟨_, y', .app (slideAll_rank hn hs) (hk.app _ n hn hs), x2, _, hi.inR hxr, hs, x3, rfl⟩
theorem Sim.slide {room : Int} {ns ms : List Nd} {is : List Int} {keep : List Bool} {R : Int → Int → Prop} (h : Sim ns ms R) (hg : Good room ns) (hi : IsL ns is) (hk : KeepOk ns is keep) : Sim (slideAll ns keep is) ms (SlidR ns keep R) := by
  refine ⟨?_, ?_, ?_⟩
  · rintro x y ⟨x0, h1, h2, h3, rfl⟩
    obtain ⟨n, k, e1, e2, e3, e4, e5, e6⟩ := h.app _ _ h3
    exact ⟨slideNd keep is n, k, slideAll_rank e1 h2, e2, hk.app _ n e1 h2, e4, e5, by simpa [slideNd] using e6⟩
  · rintro x y ⟨x0, h1, h2, h3, rfl⟩ n k hn hk2 i c d hc hd
    obtain ⟨n', k', e1, e2, _⟩ := h.app _ _ h3
    have e := slideAll_rank (is := is) e1 h2
    rw [e] at hn
    injection hn with hn
    subst hn
    unfold slideNd at hc
    rw [List.getElem?_map] at hc
    cases hb : n'.args[i]? with
    | none => rw [hb] at hc; cases hc
    | some b =>
      rw [hb] at hc
      have hc : rankK keep (at0 is b) = c := by simpa using hc
      subst hc
      have hbm := List.mem_of_getElem? hb
      have hbr := hg.sane.arg (ndAt_mem e1) hbm
      exact Hand.slide hi hk (h.down _ _ h3 n' k e1 hk2 i b d hb hd) hbr (hk.down _ n' e1 h2 b hbm)
  · rintro x y x' y' ⟨x0, h1, h2, h3, rfl⟩ ⟨x0', h1', h2', h3', rfl⟩
    rw [← rank_inj h1 h1' h2 h2']
    exact h.inj _ _ _ _ h3 h3'

/-- Between two acts: the handles, and what they are handles of. -/
structure UL (k : Nat) (xs ys : List Int) (ns ms : List Nd) : Prop where
  sim : ∃ R, Sim ns ms R ∧ ∀ (i : Nat) x y, xs[i]? = some x → ys[i]? = some y → Hand ns ms R x y
  gn : Good 2000 ns
  gm : Good 2000 ms
  lxy : xs.length = ys.length
  lx : xs.length ≤ k
  ln : ns.length ≤ k
  lm : ms.length ≤ k
theorem UL.nil (k : Nat) : UL k [] [] [] [] := by
  refine ⟨⟨fun _ _ => False, ⟨fun _ _ h => h.elim, fun _ _ h => h.elim, fun _ _ _ _ h => h.elim⟩, fun i x y h => by simp at h⟩, Good.nil (by omega), Good.nil (by omega), rfl, by simp, by simp, by simp⟩
theorem UL.mono {k k' : Nat} {xs ys : List Int} {ns ms : List Nd} (h : UL k xs ys ns ms) (hk : k ≤ k') : UL k' xs ys ns ms :=
  ⟨h.sim, h.gn, h.gm, h.lxy, Nat.le_trans h.lx hk, Nat.le_trans h.ln hk, Nat.le_trans h.lm hk⟩
theorem Is.start {ns : List Nd} {a b : Int} (h : Is ns a b) : Ytooalgnppnmeaaa.inR ns a = true := by
  cases h with
  | app h1 _ => exact (ndAt_inR h1).1
  | ptr h1 _ _ => exact (ndAt_inR h1).1
theorem UL.make {k : Nat} {xs ys : List Int} {ns ms : List Nd} (h : UL k xs ys ns ms) (hk : k < 2000) {sym : Int} (hs : 0 ≤ sym) {ps qs : List Int} (hl : ps.length = qs.length) (h6 : ps.length ≤ 6)
    (hh : ∀ (i : Nat) c d, ps[i]? = some c → qs[i]? = some d → ∃ j : Nat, xs[j]? = some c ∧ ys[j]? = some d) :
    makeP 2000 ns sym ps = (ns ++ [⟨sym, ps, 0, false, 0⟩], (ns.length : Int), 0) ∧ makeP 2000 ms sym qs = (ms ++ [⟨sym, qs, 0, false, 0⟩], (ms.length : Int), 0) ∧
      UL (k + 1) (xs ++ [(ns.length : Int)]) (ys ++ [(ms.length : Int)]) (ns ++ [⟨sym, ps, 0, false, 0⟩]) (ms ++ [⟨sym, qs, 0, false, 0⟩]) := by
  obtain ⟨R, hR, hH⟩ := h.sim
  have hx := h.lxy; have a1 := h.lx; have a2 := h.ln; have a3 := h.lm
  have hh2 : ∀ (i : Nat) c d, ps[i]? = some c → qs[i]? = some d → Hand ns ms R c d := fun i c d h1 h2 => by
    obtain ⟨j, h3, h4⟩ := hh i c d h1 h2
    exact hH j c d h3 h4
  have ip : ∀ a ∈ ps, inR ns a = true := fun a ha => by
    obtain ⟨i, hi⟩ := List.getElem?_of_mem ha
    have hlt := (List.getElem?_eq_some_iff.1 hi).1
    obtain ⟨x', y', h1, _⟩ := hh2 i a _ hi (List.getElem?_eq_getElem (by omega))
    exact h1.start
  have iq : ∀ a ∈ qs, inR ms a = true := fun a ha => by
    obtain ⟨i, hi⟩ := List.getElem?_of_mem ha
    have hlt := (List.getElem?_eq_some_iff.1 hi).1
    obtain ⟨x', y', _, h1, _⟩ := hh2 i _ a (List.getElem?_eq_getElem (by omega)) hi
    exact h1.start
  have tp : ps.all (inR ns) = true := List.all_eq_true.2 ip
  have tq : qs.all (inR ms) = true := List.all_eq_true.2 iq
  refine ⟨?_, ?_, ⟨⟨_, hR.make hl hh2, fun i x y hi hj => ?_⟩, h.gn.make hs h6 ip (by omega), h.gm.make hs (by omega) iq (by omega), by simp [hx], by simp; omega, by simp; omega, by simp; omega⟩⟩
  · unfold makeP
    rw [if_neg (by omega), if_neg (by rw [tp]; simp), if_neg (by omega)]
  · unfold makeP
    rw [if_neg (by omega), if_neg (by rw [tq]; simp), if_neg (by omega)]
  · rw [List.getElem?_append] at hi hj
    by_cases hlt : i < xs.length
    · rw [if_pos hlt] at hi
      rw [if_pos (by omega)] at hj
      exact (hH i x y hi hj).up (fun _ _ h => .inl h)
    · rw [if_neg hlt] at hi
      rw [if_neg (by omega)] at hj
      have e1 := (List.getElem?_eq_some_iff.1 hi).1
      have e2 := (List.getElem?_eq_some_iff.1 hj).1
      simp at e1 e2
      have hi0 : i - xs.length = 0 := by omega
      have hj0 : i - ys.length = 0 := by omega
      rw [hi0] at hi
      rw [hj0] at hj
      simp at hi hj
      subst hi; subst hj
      exact ⟨_, _, .app (ndAt_last _ _) rfl, .app (ndAt_last _ _) rfl, .inr ⟨rfl, rfl⟩⟩
theorem pointP_ring {ns : List Nd} {p u : Int} (h1 : inR ns p = true) (h2 : inR ns u = true) (hr : Reach ns u p) : pointP ns p u = (ns, 113) := by
  unfold pointP
  rw [if_neg (by rw [h1, h2]; simp), if_pos hr]
theorem pointP_yes {ns : List Nd} {p u : Int} (h1 : inR ns p = true) (h2 : inR ns u = true) (hr : ¬ Reach ns u p) : pointP ns p u = (ns.set p.toNat ⟨0, [], 0, true, u⟩, 0) := by
  unfold pointP
  rw [if_neg (by rw [h1, h2]; simp), if_neg hr]
theorem UL.point {k : Nat} {xs ys : List Int} {ns ms : List Nd} (h : UL k xs ys ns ms) {i j : Nat} {x y u v : Int} (hx : xs[i]? = some x) (hy : ys[i]? = some y) (hu : xs[j]? = some u) (hv : ys[j]? = some v) :
    ∃ p q, Is ns x p ∧ Is ms y q ∧ (pointP ns p u).2 = (pointP ms q v).2 ∧ UL k xs ys (pointP ns p u).1 (pointP ms q v).1 := by
  obtain ⟨R, hR, hH⟩ := h.sim
  obtain ⟨p, q, ip, iq, hpq⟩ := hH i x y hx hy
  have hb := hH j u v hu hv
  obtain ⟨u', v', iu, iv, _⟩ := hb
  have hb := hH j u v hu hv
  have hre := hR.reach_iff hpq hb
  refine ⟨p, q, ip, iq, ?_⟩
  by_cases hr : Reach ns u p
  · rw [pointP_ring ip.inR iu.start hr, pointP_ring iq.inR iv.start (hre.1 hr)]
    exact ⟨rfl, h⟩
  · rw [pointP_yes ip.inR iu.start hr, pointP_yes iq.inR iv.start (fun e => hr (hre.2 e))]
    refine ⟨rfl, ⟨_, hR.point hpq hb hr, fun i x y hi hj => Hand.point hR hpq hb hr (hH i x y hi hj)⟩, h.gn.point ip.inR iu.start hr, h.gm.point iq.inR iv.start (fun e => hr (hre.2 e)), h.lxy, h.lx, by simpa using h.ln, by simpa using h.lm⟩
theorem drop_at {xs : List Int} {d i : Nat} (hd : d < xs.length) : (xs.take d ++ xs.drop (d + 1))[i]? = if i < d then xs[i]? else xs[i + 1]? := by
  rw [List.getElem?_append]
  have : (xs.take d).length = d := by rw [List.length_take]; omega
  rw [this]
  split
  · rw [List.getElem?_take, if_pos (by assumption)]
  · rw [List.getElem?_drop]
    congr 1
    omega
theorem UL.drop {k : Nat} {xs ys : List Int} {ns ms : List Nd} (h : UL k xs ys ns ms) {d : Nat} (hd : d < xs.length) : UL k (xs.take d ++ xs.drop (d + 1)) (ys.take d ++ ys.drop (d + 1)) ns ms := by
  obtain ⟨R, hR, hH⟩ := h.sim
  have hl := h.lxy; have hk := h.lx
  refine ⟨⟨R, hR, fun i x y hi hj => ?_⟩, h.gn, h.gm, by simp [hl], by simp; omega, h.ln, h.lm⟩
  rw [drop_at hd] at hi
  rw [drop_at (by omega)] at hj
  split at hi
  · rw [if_pos (by assumption)] at hj
    exact hH i x y hi hj
  · rw [if_neg (by assumption)] at hj
    exact hH _ x y hi hj
theorem UL.slide {k : Nat} {xs ys : List Int} {ns ms : List Nd} (h : UL k xs ys ns ms) {is : List Int} (hi : IsL ns is) : okRoots ns xs = true ∧ (toOf ns is xs).length = xs.length ∧ UL k (toOf ns is xs) ys (slideOf ns is xs) ms := by
  obtain ⟨R, hR, hH⟩ := h.sim
  have hl := h.lxy; have hk := h.lx
  have hin : ∀ x ∈ xs, inR ns x = true := fun x hx => by
    obtain ⟨i, hi⟩ := List.getElem?_of_mem hx
    have hlt := (List.getElem?_eq_some_iff.1 hi).1
    obtain ⟨x', y', h1, _⟩ := hH i x _ hi (List.getElem?_eq_getElem (by omega))
    exact h1.start
  have hok : okRoots ns xs = true := List.all_eq_true.2 hin
  have hkeep := keepOk_of h.gn.sane hi hok
  have hlen : (toOf ns is xs).length = xs.length := by simp [toOf]
  refine ⟨hok, hlen, ⟨_, hR.slide h.gn hi hkeep, fun i x y hx hy => ?_⟩, slide_good h.gn hi hkeep, h.gm, by rw [hlen, hl], by rw [hlen]; exact hk, ?_, h.lm⟩
  · unfold toOf at hx
    rw [List.getElem?_map] at hx
    cases hx0 : xs[i]? with
    | none => rw [hx0] at hx; cases hx
    | some x0 =>
      rw [hx0] at hx
      have hx : rankK (keepOf ns is xs) (at0 is x0) = x := by simpa using hx
      subst hx
      have hxm := List.mem_of_getElem? hx0
      have hri := hin x0 hxm
      exact Hand.slide hi hkeep (hH i x0 y hx0 hy) hri ((keepOf_sees (inR_iff.1 (hi.inR hri))).2 ⟨_, List.mem_map.2 ⟨x0, hxm, rfl⟩, .refl _⟩)
  · have e : (slideAll ns (keepOf ns is xs) is).length = (liveUp (keepOf ns is xs) ns.length).length := slideUp_length _ _ _ _
    have := liveUp_le (keepOf ns is xs) ns.length
    have := h.ln
    unfold slideOf
    omega
end Go.Proofs.Ytooalgnppnmeaaa
