/- Nodes as plain data; nothing of Go or of the program here. -/
namespace Go.Proofs.Ytooalgnppnmeaaa
/-- A node. -/
structure Nd where
  sym : Int
  args : List Int
  mark : Int
  pts : Bool
  to : Int
deriving DecidableEq, Inhabited

/-- The node that is none. -/
def Nd.zero : Nd := ⟨0, [], 0, false, 0⟩
/-- What is right beneath. -/
def Nd.down (n : Nd) : List Int := if n.pts = true then [n.to] else n.args

/-- The node at an address, if there is one. -/
def ndAt (ns : List Nd) (a : Int) : Option Nd := if 0 ≤ a then ns[a.toNat]? else none
def inR (ns : List Nd) (a : Int) : Bool := decide (0 ≤ a ∧ a < ns.length)
theorem inR_iff {ns : List Nd} {a : Int} : inR ns a = true ↔ 0 ≤ a ∧ a < ns.length := by simp [inR]
theorem inR_false {ns : List Nd} {a : Int} : inR ns a = false ↔ ¬ (0 ≤ a ∧ a < ns.length) := by simp only [inR, decide_eq_false_iff_not]
theorem ndAt_of {ns : List Nd} {a : Int} (h : inR ns a = true) : ∃ n, ndAt ns a = some n ∧ ns[a.toNat]? = some n := by
  have h := inR_iff.1 h
  have hl : a.toNat < ns.length := by omega
  exact ⟨ns[a.toNat], by simp [ndAt, h.1, List.getElem?_eq_getElem hl], List.getElem?_eq_getElem hl⟩
theorem ndAt_mem {ns : List Nd} {a : Int} {n : Nd} (h : ndAt ns a = some n) : n ∈ ns := by
  unfold ndAt at h
  split at h
  · exact List.mem_of_getElem? h
  · cases h
theorem ndAt_inR {ns : List Nd} {a : Int} {n : Nd} (h : ndAt ns a = some n) : inR ns a = true ∧ ns[a.toNat]? = some n := by
  unfold ndAt at h
  split at h
  · have := (List.getElem?_eq_some_iff.1 h).1
    exact ⟨inR_iff.2 ⟨‹_›, by omega⟩, h⟩
  · cases h
/-- The nodes' sizes are modest; what stands beneath is there. -/
structure Sane (ns : List Nd) : Prop where
  few : ∀ n ∈ ns, n.args.length ≤ 6
  inn : ∀ n ∈ ns, ∀ d ∈ n.down, inR ns d = true
  ptr : ∀ n ∈ ns, n.pts = true → n.args = []
/-- No node is beneath itself: told by heights. -/
def Acyc (ns : List Nd) : Prop := ∃ r : Int → Nat, ∀ (a : Int) (n : Nd), ndAt ns a = some n → ∀ d ∈ n.down, r d < r a
end Go.Proofs.Ytooalgnppnmeaaa
