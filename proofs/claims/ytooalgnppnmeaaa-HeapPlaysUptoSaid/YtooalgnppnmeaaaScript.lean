/- Scripts in memory; HeapRefills: the walk. -/
import Derived.Test.YtooalgnppnmeaaaDo
namespace Go.Proofs.Ytooalgnppnmeaaa
open Go.RowKit

def opL (p : Value × Value) (x : Opr) : List Value := [.int .i64 x.kind, .int .i64 x.n, .int .i64 x.m, .bool x.two, p.1, p.2]
def flatO (ps : List (Value × Value)) (xs : List Opr) : List Value := (ps.zip xs).flatMap fun q => opL q.1 q.2
theorem flatO_cons (p : Value × Value) (ps : List (Value × Value)) (x : Opr) (xs : List Opr) : flatO (p :: ps) (x :: xs) = opL p x ++ flatO ps xs := by simp [flatO]
theorem flatO_get (ps : List (Value × Value)) (xs : List Opr) (i : Nat) (p : Value × Value) (x : Opr) (hp : ps[i]? = some p) (hx : xs[i]? = some x) (k : Nat) (hk : k < 6) : (flatO ps xs)[i * 6 + k]? = (opL p x)[k]? := by
  induction ps generalizing xs i with
  | nil => simp at hp
  | cons b ps ih => cases xs with
    | nil => simp at hx
    | cons m xs =>
      rw [flatO_cons]
      cases i with
      | zero =>
        simp at hp hx
        subst hp; subst hx
        rw [List.getElem?_append_left (by simp [opL]; omega)]
        simp
      | succ i =>
        rw [List.getElem?_append_right (by simp [opL]; omega)]
        rw [show (i + 1) * 6 + k - (opL b m).length = i * 6 + k by simp [opL]; omega]
        exact ih xs i (by simpa using hp) (by simpa using hx)
/-- A script that can be read. -/
def OpsR (w : World) (F : Nat → Prop) (v : Value) (xs : List Opr) : Prop :=
  ∃ ps : List (Value × Value), ps.length = xs.length ∧ RowR w 6 F v xs.length (flatO ps xs) ∧ ∀ (i : Nat) (p : Value × Value) (x : Opr), ps[i]? = some p → xs[i]? = some x → OprR w F x p.1 p.2
theorem OprR.keptNo {w w' : World} {F : Nat → Prop} {x : Opr} {lv nv : Value} (h : OprR w F x lv nv) (hk : Kept No w w') : OprR w' F x lv nv := ⟨h.l.keptNo hk, h.nodes.keptNo hk⟩
theorem OpsR.keptNo {w w' : World} {F : Nat → Prop} {v : Value} {xs : List Opr} (h : OpsR w F v xs) (hk : Kept No w w') : OpsR w' F v xs := by
  obtain ⟨ps, h1, h2, h3⟩ := h
  exact ⟨ps, h1, h2.keptNo hk, fun i p x hp hx => (h3 i p x hp hx).keptNo hk⟩
theorem OpsR.mono {w : World} {F F' : Nat → Prop} {v : Value} {xs : List Opr} (h : OpsR w F v xs) (hF : ∀ k, F k → k < w.heap.size → F' k) : OpsR w F' v xs := by
  obtain ⟨ps, h1, h2, h3⟩ := h
  exact ⟨ps, h1, h2.mono hF, fun i p x hp hx => ⟨(h3 i p x hp hx).l.mono hF, (h3 i p x hp hx).nodes.mono hF⟩⟩
theorem OpsR.slice {w : World} {F : Nat → Prop} {v : Value} {xs : List Opr} (h : OpsR w F v xs) : ∃ A c, v = .slice A xs.length c := by obtain ⟨_, _, hr, _⟩ := h; exact hr.slice
theorem OpsR.at_ {w : World} {F : Nat → Prop} {v : Value} {xs : List Opr} (h : OpsR w F v xs) {i : Nat} {x : Opr} (hi : xs[i]? = some x) : ∃ b o c lv nv, v = .slice (some ⟨b, o, none⟩) xs.length c ∧ F b ∧ b < w.heap.size ∧
    w.cell? ⟨b, o + i * 6, none⟩ = some (.int .i64 x.kind) ∧ w.cell? ⟨b, o + i * 6 + 1, none⟩ = some (.int .i64 x.n) ∧ w.cell? ⟨b, o + i * 6 + 2, none⟩ = some (.int .i64 x.m) ∧ w.cell? ⟨b, o + i * 6 + 3, none⟩ = some (.bool x.two) ∧
    w.cell? ⟨b, o + i * 6 + 4, none⟩ = some lv ∧ w.cell? ⟨b, o + i * 6 + 5, none⟩ = some nv ∧ OprR w F x lv nv := by
  obtain ⟨ps, hl, ⟨_, A, c, rfl, hc, hr⟩, ha⟩ := h
  have hlt : i < xs.length := (List.getElem?_eq_some_iff.1 hi).1
  obtain ⟨b, o, rfl, hf, hb, hx⟩ := hr (by omega)
  have hai : ps[i]? = some ps[i] := List.getElem?_eq_getElem (by omega)
  have hg := fun k hk => flatO_get ps xs i ps[i] x hai hi k hk
  refine ⟨b, o, c, ps[i].1, ps[i].2, rfl, hf, hb, ?_, ?_, ?_, ?_, ?_, ?_, ha i _ x hai hi⟩
  · simpa using hx (i * 6 + 0) _ (hg 0 (by omega))
  · simpa [Nat.add_assoc] using hx (i * 6 + 1) _ (hg 1 (by omega))
  · simpa [Nat.add_assoc] using hx (i * 6 + 2) _ (hg 2 (by omega))
  · simpa [Nat.add_assoc] using hx (i * 6 + 3) _ (hg 3 (by omega))
  · simpa [Nat.add_assoc] using hx (i * 6 + 4) _ (hg 4 (by omega))
  · simpa [Nat.add_assoc] using hx (i * 6 + 5) _ (hg 5 (by omega))

/-- Between two calls: the two heaps, in blocks from N on, alike. -/
structure Pair (N : Nat) (W : World) (hb rb : Nat) (room : Int) : Prop where
  it : ∃ F1 F2 ns, Both W F1 F2 hb rb room ns ns ∧ Good room ns ∧ (∀ k, F1 k → N ≤ k) ∧ (∀ k, F2 k → N ≤ k)
theorem Pair.keptNo {N : Nat} {w w' : World} {hb rb : Nat} {room : Int} (h : Pair N w hb rb room) (hk : Kept No w w') : Pair N w' hb rb room := by
  obtain ⟨F1, F2, ns, h1, h2, h3, h4⟩ := h.it
  exact ⟨⟨F1, F2, ns, h1.keptNo hk, h2, h3, h4⟩⟩
/-- One call of 'do'. -/
theorem Pair.do_ {N : Nat} {W : World} {hb rb : Nat} {room : Int} (h : Pair N W hb rb room) (hr : room ≤ 4000) (x : Opr) (lv nv : Value) (hx : OprR W (fun k => k < N) x lv nv) (hs : OprS x) (hN : N ≤ W.heap.size) :
    Calls Try.prog 37 #[.pointer (some ⟨hb, 0, none⟩), .pointer (some ⟨rb, 0, none⟩), opVal x lv nv] W (fun e W' => e = .returned (.bool true) ∧ Pair N W' hb rb room ∧ Kept (fun k => N ≤ k) W W') := by
  obtain ⟨F1, F2, ns, h1, h2, h3, h4⟩ := h.it
  refine (do_any h1 h2 hr x lv nv hx (fun k hk => ⟨fun h => by have := h3 k h; omega, fun h => by have := h4 k h; omega⟩) hs).mono ?_
  rintro e W' ⟨rfl, F1', F2', ns', b, g, d1, d2, hk⟩
  refine ⟨rfl, ⟨⟨F1', F2', ns', b, g, fun k hk => ?_, fun k hk => ?_⟩⟩, hk.mono (fun k _ h => by rcases h with h | h; exact h3 k h; exact h4 k h)⟩
  · rcases d1 k hk with h | h
    · exact h3 k h
    · omega
  · rcases d2 k hk with h | h
    · exact h4 k h
    · omega
/-- Two new heaps. -/
theorem Pair.new (w : World) (room : Int) (hr : 1 ≤ room) : Pair w.heap.size ((w.alloc (.cells #[.int .i64 room, .slice none 0 0] 91)).alloc (.cells #[.int .i64 room, .slice none 0 0] 75)) w.heap.size (w.heap.size + 1) room := by
  refine ⟨⟨fun k => k = w.heap.size, fun k => k = w.heap.size + 1, [], ⟨(heap_new w room).keptNo ((Kept.refl No _).alloc _), ?_, fun k h1 h2 => by omega, fun k hk => by subst hk; simp; omega, fun k hk => by subst hk; simp⟩, Good.nil (by omega), fun k hk => by omega, fun k hk => by omega⟩⟩
  have := rheap_new (w.alloc (.cells #[.int .i64 room, .slice none 0 0] 91)) room
  simpa using this
end Go.Proofs.Ytooalgnppnmeaaa
