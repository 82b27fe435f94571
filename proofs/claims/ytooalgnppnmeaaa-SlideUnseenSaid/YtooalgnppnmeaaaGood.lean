/- What every heap's nodes are. Plain data. -/
import Derived.Test.YtooalgnppnmeaaaRingP
namespace Go.Proofs.Ytooalgnppnmeaaa

/-- A node may be in a list of so many. -/
def MayP (n : Nd) (many : Int) : Prop :=
  0 ≤ n.sym ∧ n.args.length ≤ 6 ∧ 0 ≤ n.mark ∧ n.mark ≤ 2 ∧ (∀ a ∈ n.args, 0 ≤ a ∧ a < many) ∧
    (n.pts = true → 0 ≤ n.to ∧ n.to < many ∧ n.sym = 0 ∧ n.mark = 0 ∧ n.args = []) ∧ (n.pts = false → n.to = 0)
structure Good (room : Int) (ns : List Nd) : Prop where
  may : ∀ n ∈ ns, MayP n ns.length
  acyc : Acyc ns
  len : (ns.length : Int) ≤ room
theorem sane_of_may {ns : List Nd} (h : ∀ n ∈ ns, MayP n ns.length) : Sane ns := by
  refine ⟨fun n hn => (h n hn).2.1, fun n hn d hd => ?_, fun n hn hp => ?_⟩
  · obtain ⟨_, _, _, _, h5, h6, _⟩ := h n hn
    unfold Nd.down at hd
    split at hd
    · rename_i hp
      have : d = n.to := by simpa using hd
      subst this
      exact inR_iff.2 ⟨(h6 hp).1, (h6 hp).2.1⟩
    · exact inR_iff.2 (h5 d hd)
  · exact ((h n hn).2.2.2.2.2.1 hp).2.2.2.2
theorem Good.sane {room : Int} {ns : List Nd} (h : Good room ns) : Sane ns := sane_of_may h.may
theorem Good.nil {room : Int} (h : 0 ≤ room) : Good room [] := ⟨by simp, Acyc.nil, by simpa using h⟩
theorem MayP.mono {n : Nd} {a b : Int} (h : MayP n a) (hab : a ≤ b) : MayP n b := by
  obtain ⟨h1, h2, h3, h4, h5, h6, h7⟩ := h
  exact ⟨h1, h2, h3, h4, fun x hx => ⟨(h5 x hx).1, by have := (h5 x hx).2; omega⟩, fun hp => ⟨(h6 hp).1, by have := (h6 hp).2.1; omega, (h6 hp).2.2⟩, h7⟩
theorem Good.make {room : Int} {ns : List Nd} (h : Good room ns) {sym : Int} {l : List Int} (hs : 0 ≤ sym) (hl : l.length ≤ 6) (hi : ∀ a ∈ l, inR ns a = true) (hr : (ns.length : Int) < room) : Good room (ns ++ [⟨sym, l, 0, false, 0⟩]) := by
  have hd : (Nd.mk sym l 0 false 0).down = l := by simp [Nd.down]
  refine ⟨fun n hn => ?_, h.acyc.make h.sane (by rw [hd]; exact hi), by simp; omega⟩
  rcases List.mem_append.1 hn with hn | hn
  · exact (h.may n hn).mono (by simp; omega)
  · have : n = ⟨sym, l, 0, false, 0⟩ := by simpa using hn
    subst this
    exact ⟨hs, hl, by simp, by simp, fun a ha => by have := inR_iff.1 (hi a ha); simp; omega, by simp, by simp⟩
theorem Good.point {room : Int} {ns : List Nd} (h : Good room ns) {a to : Int} (ha : inR ns a = true) (ht : inR ns to = true) (hn : ¬ Reach ns to a) : Good room (ns.set a.toNat ⟨0, [], 0, true, to⟩) := by
  have h1 := inR_iff.1 ha
  have h2 := inR_iff.1 ht
  refine ⟨fun n hn => ?_, h.acyc.point (to := to) (by simp [Nd.down]) (by rw [Int.toNat_of_nonneg h1.1]; exact hn), by simpa using h.len⟩
  rw [List.length_set]
  rcases List.mem_or_eq_of_mem_set hn with hn | rfl
  · exact h.may n hn
  · exact ⟨by simp, by simp, by simp, by simp, by simp, fun _ => ⟨h2.1, h2.2, rfl, rfl, rfl⟩, by simp⟩
theorem Good.mark {room : Int} {ns : List Nd} (h : Good room ns) {a mark : Int} {n : Nd} (ha : ndAt ns a = some n) (hp : n.pts = false) (hm : 0 ≤ mark ∧ mark ≤ 2) : Good room (ns.set a.toNat { n with mark := mark }) := by
  obtain ⟨h1, h2⟩ := ndAt_inR ha
  have h3 := inR_iff.1 h1
  refine ⟨fun x hx => ?_, h.acyc.same fun b y hy => ?_, by simpa using h.len⟩
  · rw [List.length_set]
    rcases List.mem_or_eq_of_mem_set hx with hx | rfl
    · exact h.may x hx
    · obtain ⟨m1, m2, _, _, m5, _, m7⟩ := h.may n (ndAt_mem ha)
      exact ⟨m1, m2, hm.1, hm.2, m5, fun hq => (by rw [hp] at hq; cases hq), m7⟩
  · rcases ndAt_set hy with ⟨e, rfl⟩ | ⟨_, e⟩
    · refine ⟨n, ?_, rfl⟩
      rw [e, Int.toNat_of_nonneg h3.1]; exact ha
    · exact ⟨y, e, rfl⟩
theorem clear_at {ns : List Nd} {a : Int} {y : Nd} (h : ndAt (ns.map fun n => { n with mark := 0 }) a = some y) : ∃ n, ndAt ns a = some n ∧ y = { n with mark := 0 } := by
  unfold ndAt at h ⊢
  split at h
  · rename_i h0
    rw [List.getElem?_map] at h
    cases hx : ns[a.toNat]? with
    | none => rw [hx] at h; cases h
    | some n =>
      rw [hx] at h
      simp only [Option.map_some, Option.some.injEq] at h
      exact ⟨n, by rw [if_pos h0], h.symm⟩
  · cases h
theorem Good.clear {room : Int} {ns : List Nd} (h : Good room ns) : Good room (ns.map fun n => { n with mark := 0 }) := by
  refine ⟨fun x hx => ?_, h.acyc.same fun b y hy => ?_, by simpa using h.len⟩
  · rw [List.length_map]
    obtain ⟨n, hn, rfl⟩ := List.mem_map.1 hx
    obtain ⟨m1, m2, m3, m4, m5, m6, m7⟩ := h.may n hn
    exact ⟨m1, m2, by simp, by simp, m5, fun hq => ⟨(m6 hq).1, (m6 hq).2.1, (m6 hq).2.2.1, rfl, (m6 hq).2.2.2.2⟩, m7⟩
  · obtain ⟨n, h1, rfl⟩ := clear_at hy
    exact ⟨n, h1, rfl⟩
end Go.Proofs.Ytooalgnppnmeaaa
