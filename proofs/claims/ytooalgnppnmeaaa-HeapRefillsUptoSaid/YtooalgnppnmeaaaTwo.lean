/- Two heaps with their documents' side by side, in blocks apart. -/
import Derived.Test.YtooalgnppnmeaaaScript
namespace Go.Proofs.Ytooalgnppnmeaaa
open Go.RowKit

theorem Grow.ge {N : Nat} {F : Nat → Prop} {w w' : World} (h : ∀ k, F k → N ≤ k) (hN : N ≤ w.heap.size) : ∀ k, Grow F w w' k → N ≤ k := fun k hk => by
  rcases hk with hk | hk
  · exact h k hk
  · omega
/-- A heap and the document's, alike, in blocks of D. -/
structure Twin (D : Nat → Prop) (W : World) (hb rb : Nat) (room : Int) : Prop where
  it : ∃ F1 F2 ns, Both W F1 F2 hb rb room ns ns ∧ Good room ns ∧ (∀ k, F1 k → D k) ∧ (∀ k, F2 k → D k)
theorem Twin.kept {D G : Nat → Prop} {w w' : World} {hb rb : Nat} {room : Int} (h : Twin D w hb rb room) (hk : Kept G w w') (hd : ∀ k, D k → ¬ G k) : Twin D w' hb rb room := by
  obtain ⟨F1, F2, ns, h1, h2, h3, h4⟩ := h.it
  exact ⟨⟨F1, F2, ns, h1.kept hk (fun k hk => hd k (h3 k hk)) (fun k hk => hd k (h4 k hk)), h2, h3, h4⟩⟩
theorem Twin.do_ {D : Nat → Prop} {W : World} {hb rb : Nat} {room : Int} (h : Twin D W hb rb room) (hr : room ≤ 4000) {G : Nat → Prop} (x : Opr) (lv nv : Value) (hx : OprR W G x lv nv) (hd : ∀ k, G k → ¬ D k) (hs : OprS x) :
    Calls Try.prog 37 #[.pointer (some ⟨hb, 0, none⟩), .pointer (some ⟨rb, 0, none⟩), opVal x lv nv] W (fun e W' => e = .returned (.bool true) ∧ Twin (Grow D W W') W' hb rb room ∧ Kept D W W') := by
  obtain ⟨F1, F2, ns, h1, h2, h3, h4⟩ := h.it
  refine (do_any h1 h2 hr x lv nv hx (fun k hk => ⟨fun h => hd k hk (h3 k h), fun h => hd k hk (h4 k h)⟩) hs).mono ?_
  rintro e W' ⟨rfl, F1', F2', ns', b, g, d1, d2, hk⟩
  refine ⟨rfl, ⟨⟨F1', F2', ns', b, g, fun k hk => ?_, fun k hk => ?_⟩⟩, hk.mono (fun k _ h => by rcases h with h | h; exact h3 k h; exact h4 k h)⟩
  · rcases d1 k hk with h | h
    · exact .inl (h3 k h)
    · exact .inr ⟨h, b.b1 k hk⟩
  · rcases d2 k hk with h | h
    · exact .inl (h4 k h)
    · exact .inr ⟨h, b.b2 k hk⟩

/-- Two such, in blocks from N on. -/
structure Two (N : Nat) (W : World) (h1 r1 : Nat) (room : Int) (h2 r2 : Nat) (other : Int) : Prop where
  it : ∃ D1 D2, Twin D1 W h1 r1 room ∧ Twin D2 W h2 r2 other ∧ (∀ k, D1 k → ¬ D2 k) ∧ Bnd D1 W ∧ Bnd D2 W ∧ (∀ k, D1 k → N ≤ k) ∧ (∀ k, D2 k → N ≤ k)
section
variable {N : Nat} {W w w' : World} {h1 r1 h2 r2 : Nat} {room other : Int}
theorem Two.keptNo (h : Two N w h1 r1 room h2 r2 other) (hk : Kept No w w') : Two N w' h1 r1 room h2 r2 other := by
  obtain ⟨D1, D2, t1, t2, hd, b1, b2, n1, n2⟩ := h.it
  exact ⟨⟨D1, D2, t1.kept hk (fun _ _ h => h), t2.kept hk (fun _ _ h => h), hd, b1.le hk.size, b2.le hk.size, n1, n2⟩⟩
theorem Two.do1 (h : Two N W h1 r1 room h2 r2 other) (hr : room ≤ 4000) (x : Opr) (lv nv : Value) (hx : OprR W (fun k => k < N) x lv nv) (hs : OprS x) (hN : N ≤ W.heap.size) :
    Calls Try.prog 37 #[.pointer (some ⟨h1, 0, none⟩), .pointer (some ⟨r1, 0, none⟩), opVal x lv nv] W (fun e W' => e = .returned (.bool true) ∧ Two N W' h1 r1 room h2 r2 other ∧ Kept (fun k => N ≤ k) W W') := by
  obtain ⟨D1, D2, t1, t2, hd, b1, b2, n1, n2⟩ := h.it
  refine (t1.do_ hr x lv nv hx (fun k hk h => by have := n1 k h; omega) hs).mono ?_
  rintro e W' ⟨rfl, t, hk⟩
  refine ⟨rfl, ⟨⟨_, D2, t, t2.kept hk (fun k h2 h1 => hd k h1 h2), fun k hk2 h2 => ?_, b1.grow hk.size, b2.le hk.size, Grow.ge n1 hN, n2⟩⟩, hk.mono (fun k _ h => n1 k h)⟩
  rcases hk2 with h | h
  · exact hd k h h2
  · have := b2 k h2; omega
theorem Two.do2 (h : Two N W h1 r1 room h2 r2 other) (hr : other ≤ 4000) (x : Opr) (lv nv : Value) (hx : OprR W (fun k => k < N) x lv nv) (hs : OprS x) (hN : N ≤ W.heap.size) :
    Calls Try.prog 37 #[.pointer (some ⟨h2, 0, none⟩), .pointer (some ⟨r2, 0, none⟩), opVal x lv nv] W (fun e W' => e = .returned (.bool true) ∧ Two N W' h1 r1 room h2 r2 other ∧ Kept (fun k => N ≤ k) W W') := by
  obtain ⟨D1, D2, t1, t2, hd, b1, b2, n1, n2⟩ := h.it
  refine (t2.do_ hr x lv nv hx (fun k hk h => by have := n2 k h; omega) hs).mono ?_
  rintro e W' ⟨rfl, t, hk⟩
  refine ⟨rfl, ⟨⟨D1, _, t1.kept hk hd, t, fun k h1 hk2 => ?_, b1.le hk.size, b2.grow hk.size, n1, Grow.ge n2 hN⟩⟩, hk.mono (fun k _ h => n2 k h)⟩
  rcases hk2 with h | h
  · exact hd k h1 h
  · have := b1 k h1; omega
end
/-- A call of a script that hands nothing in. -/
theorem OprR.bare (w : World) (F : Nat → Prop) (k : Int) : OprR w F ⟨k, 0, 0, false, [], []⟩ (.slice none 0 0) (.slice none 0 0) := ⟨RowR.nil w 1 F, (NodesO.nil w F).reads⟩
theorem OprS.bare (k : Int) : OprS ⟨k, 0, 0, false, [], []⟩ := ⟨by simp, by simp, by simp⟩
/-- Four new heaps. -/
theorem Two.new (w : World) (room other : Int) (hr : 1 ≤ room) (ho : 1 ≤ other) : Two w.heap.size ((((w.alloc (.cells #[.int .i64 room, .slice none 0 0] 91)).alloc (.cells #[.int .i64 other, .slice none 0 0] 91)).alloc (.cells #[.int .i64 room, .slice none 0 0] 75)).alloc (.cells #[.int .i64 other, .slice none 0 0] 75))
    w.heap.size (w.heap.size + 2) room (w.heap.size + 1) (w.heap.size + 3) other := by
  generalize hA : w.alloc (.cells #[.int .i64 room, .slice none 0 0] 91) = A
  generalize hB : A.alloc (.cells #[.int .i64 other, .slice none 0 0] 91) = B
  generalize hC : B.alloc (.cells #[.int .i64 room, .slice none 0 0] 75) = C
  generalize hD : C.alloc (.cells #[.int .i64 other, .slice none 0 0] 75) = D
  have sA : A.heap.size = w.heap.size + 1 := by rw [← hA]; simp
  have sB : B.heap.size = w.heap.size + 2 := by rw [← hB]; simp [sA]
  have sC : C.heap.size = w.heap.size + 3 := by rw [← hC]; simp [sB]
  have sD : D.heap.size = w.heap.size + 4 := by rw [← hD]; simp [sC]
  have kB : Kept No A B := hB ▸ (Kept.refl No A).alloc _
  have kC : Kept No B C := hC ▸ (Kept.refl No B).alloc _
  have kD : Kept No C D := hD ▸ (Kept.refl No C).alloc _
  have a := (hA ▸ heap_new w room : HeapO A (fun k => k = w.heap.size) w.heap.size room []).keptNo ((kB.thenNo kC).thenNo kD)
  have b := (hB ▸ heap_new A other : HeapO B (fun k => k = A.heap.size) A.heap.size other []).keptNo (kC.thenNo kD)
  have c := (hC ▸ rheap_new B room : RHeapO C (fun k => k = B.heap.size) B.heap.size room []).keptNo kD
  have d := (hD ▸ rheap_new C other : RHeapO D (fun k => k = C.heap.size) C.heap.size other [])
  rw [sA] at b
  rw [sB] at c
  rw [sC] at d
  refine ⟨⟨fun k => k = w.heap.size ∨ k = w.heap.size + 2, fun k => k = w.heap.size + 1 ∨ k = w.heap.size + 3,
    ⟨⟨_, _, [], ⟨a, c, fun k h1 h2 => by omega, fun k hk => by omega, fun k hk => by omega⟩, Good.nil (by omega), fun k hk => .inl hk, fun k hk => .inr hk⟩⟩,
    ⟨⟨_, _, [], ⟨b, d, fun k h1 h2 => by omega, fun k hk => by omega, fun k hk => by omega⟩, Good.nil (by omega), fun k hk => .inl hk, fun k hk => .inr hk⟩⟩,
    fun k h1 h2 => by omega, fun k hk => by omega, fun k hk => by omega, fun k hk => by omega, fun k hk => by omega⟩⟩
end Go.Proofs.Ytooalgnppnmeaaa
