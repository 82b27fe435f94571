/- What a raw call turns. Plain data. -/
import Derived.Test.YtooalgnppnmeaaaL11c
namespace Go.Proofs.Ytooalgnppnmeaaa

/-- How many of the first k nodes have turned. -/
def turned (ns ms : List Nd) (k : Nat) : Nat := ((ns.zip ms).take k).countP fun p => decide (p.1 ≠ p.2)
theorem turned_succ (ns ms : List Nd) (k : Nat) (a b : Nd) (ha : ns[k]? = some a) (hb : ms[k]? = some b) : turned ns ms (k + 1) = turned ns ms k + (if a = b then 0 else 1) := by
  unfold turned
  have hz : (ns.zip ms)[k]? = some (a, b) := by rw [List.getElem?_zip_eq_some]; exact ⟨ha, hb⟩
  rw [List.take_add_one, hz, List.countP_append]
  by_cases h : a = b <;> simp [h]
theorem turned_le (ns ms : List Nd) (k : Nat) : turned ns ms k ≤ k := by
  unfold turned
  exact Nat.le_trans List.countP_le_length (by simp; omega)
theorem zip_self_count (ns : List Nd) : (ns.zip ns).countP (fun p => decide (p.1 ≠ p.2)) = 0 := by
  induction ns with
  | nil => rfl
  | cons a ns ih => simp only [List.zip_cons_cons, List.countP_cons, ih]; simp
theorem zip_append_count (ns ms : List Nd) : (ns.zip (ns ++ ms)).countP (fun p => decide (p.1 ≠ p.2)) = 0 := by
  induction ns with
  | nil => simp
  | cons a ns ih => simp only [List.cons_append, List.zip_cons_cons, List.countP_cons, ih]; simp
theorem zip_set_count (ns : List Nd) (i : Nat) (m : Nd) : (ns.zip (ns.set i m)).countP (fun p => decide (p.1 ≠ p.2)) ≤ 1 := by
  induction ns generalizing i with
  | nil => simp
  | cons a ns ih =>
    cases i with
    | zero => simp only [List.set_cons_zero, List.zip_cons_cons, List.countP_cons, zip_self_count]; split <;> omega
    | succ i => simp only [List.set_cons_succ, List.zip_cons_cons, List.countP_cons]; have := ih i; simpa using this
def allTurned (ns ms : List Nd) : Nat := (ns.zip ms).countP fun p => decide (p.1 ≠ p.2)
theorem turned_all (ns ms : List Nd) (h : ns.length ≤ ms.length) : turned ns ms ns.length = allTurned ns ms := by
  unfold turned allTurned
  rw [List.take_of_length_le (by simp; omega)]

structure KeepsOK (ns ms : List Nd) (x : Rw) (err : Int) : Prop where
  l1 : ns.length ≤ ms.length
  l2 : ms.length ≤ ns.length + 1
  l3 : err ≠ 0 → ms.length = ns.length
  c : allTurned ns ms ≤ 1
  c0 : (err ≠ 0 ∨ pickP x.kind 7 < 4) → allTurned ns ms = 0
  l4 : pickP x.kind 7 < 4 → err = 0 → ms.length = ns.length + 1
  ne : err = 0 → 4 ≤ pickP x.kind 7 → 0 < ns.length
  m6 : err = 0 → pickP x.kind 7 = 6 → ∃ y, ndAt ms (pickP x.n ns.length) = some y ∧ y.mark = pickP x.m 3 ∧ y.pts = false
  m4 : err = 0 → 4 ≤ pickP x.kind 7 → pickP x.kind 7 ≤ 5 → ∃ y, ndAt ms (pickP x.n ns.length) = some y ∧ y.pts = true ∧ y.to = pickP x.m ns.length

theorem many_eq {ns : List Nd} (h : 0 < ns.length) : many ns = ns.length := by unfold many; rw [if_neg (by omega)]
theorem ndAt_set_self {ns : List Nd} {a : Int} {m : Nd} (h : inR ns a = true) : ndAt (ns.set a.toNat m) a = some m := by
  have := inR_iff.1 h
  unfold ndAt
  rw [if_pos this.1]
  simp [show a.toNat < ns.length by omega]
theorem KeepsOK.same {ns : List Nd} {x : Rw} {err : Int} (h : err ≠ 0) : KeepsOK ns ns x err :=
  ⟨Nat.le_refl _, Nat.le_succ _, fun _ => rfl, by unfold allTurned; rw [zip_self_count]; omega, fun _ => zip_self_count ns, fun _ e => absurd e h, fun e => absurd e h, fun e => absurd e h, fun e => absurd e h⟩
theorem keeps_ok {room : Int} {ns : List Nd} {x : Rw} {p : List Nd × Int} (h : StepR room ns x p) : KeepsOK ns p.1 x p.2 := by
  rcases h with ⟨h1, h2, rfl⟩ | ⟨h1, rfl⟩ | ⟨h1, sym, l, s1, s2, s3, rfl⟩
  · unfold pointP
    split
    · exact .same (by simp)
    · rename_i hin
      split
      · exact .same (by simp)
      · have hb : inR ns (pickP x.n (many ns)) = true := by
          cases hq : inR ns (pickP x.n (many ns)) with
          | true => rfl
          | false => exact absurd (.inl hq) hin
        have h0 : 0 < ns.length := by have := inR_iff.1 hb; omega
        rw [many_eq h0] at hb ⊢
        exact ⟨by simp, by simp, fun _ => by simp, zip_set_count _ _ _, fun h => by rcases h with h | h; exact absurd rfl h; omega, fun h => by omega, fun _ _ => h0, fun _ h => by omega, fun _ _ _ => ⟨_, ndAt_set_self hb, rfl, rfl⟩⟩
  · unfold markP
    split
    · exact .same (by simp)
    · rename_i n hn
      split
      · exact .same (by simp)
      · rename_i hp
        split
        · exact .same (by simp)
        · have hb := (ndAt_inR hn).1
          have h0 : 0 < ns.length := by have := inR_iff.1 hb; omega
          rw [many_eq h0] at hb ⊢
          exact ⟨by simp, by simp, fun _ => by simp, zip_set_count _ _ _, fun h => by rcases h with h | h; exact absurd rfl h; omega, fun h => by omega, fun _ _ => h0, fun _ _ => ⟨_, ndAt_set_self hb, rfl, by simpa using hp⟩, fun _ _ h => by omega⟩
  · unfold makeP
    split
    · exact .same (by simp)
    · split
      · exact .same (by simp)
      · split
        · exact .same (by simp)
        · exact ⟨by simp, by simp, fun h => absurd rfl h, by unfold allTurned; dsimp only; rw [zip_append_count]; omega, fun _ => zip_append_count _ _, fun _ _ => by simp, fun _ h => by omega, fun _ h => by omega, fun _ h => by omega⟩
end Go.Proofs.Ytooalgnppnmeaaa
