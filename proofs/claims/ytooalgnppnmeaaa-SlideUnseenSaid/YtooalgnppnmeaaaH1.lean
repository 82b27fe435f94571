/- The heap's small functions: contracts. -/
import Derived.Test.YtooalgnppnmeaaaProg
import Derived.Test.YtooalgnppnmeaaaRep
import Derived.Deep.QuietTactic
import Derived.BigQuiet
import Derived.OwnWalk
namespace Go.Proofs.Ytooalgnppnmeaaa
open Go.RowKit

theorem info3 : (Try.prog.info? 3).map (fun i => (i.zero, i.size, i.bytes)) = some (some (.int .i64 0), 1, 8) := by kernel_rfl
theorem size3 : (Try.prog.info? 3).map (·.size) = some 1 := by kernel_rfl
theorem infoN : (Try.prog.info? 32).map (fun i => (i.zero, i.size, i.bytes)) = some (some (.agg #[.int .i64 0, .slice none 0 0, .int .i64 0, .bool false, .int .i64 0]), 5, 56) := by kernel_rfl

theorem used_any {F : Nat → Prop} {hb : Nat} {room : Int} {ns : List Nd} {w : World} (h : HeapO w F hb room ns) :
    Calls Try.prog 24 #[.pointer (some ⟨hb, 0, none⟩)] w fun e w' => e = .returned (.int .i64 ns.length) ∧ w = w' := by
  obtain ⟨A, c, _, _, _, h1, _, _⟩ := h.open_
  go_enter Try.func24, Try.ntmps24
  go_wp2
  go_ret
  exact ⟨rfl, rfl⟩

theorem room_any {F : Nat → Prop} {hb : Nat} {room : Int} {ns : List Nd} {w : World} (h : HeapO w F hb room ns) :
    Calls Try.prog 25 #[.pointer (some ⟨hb, 0, none⟩)] w fun e w' => e = .returned (.int .i64 room) ∧ w = w' := by
  obtain ⟨A, c, _, _, h1, _, _, _⟩ := h.open_
  go_enter Try.func25, Try.ntmps25
  go_wp2
  go_ret
  exact ⟨rfl, rfl⟩

theorem has_any {F : Nat → Prop} {hb : Nat} {room : Int} {ns : List Nd} {w : World} (h : HeapO w F hb room ns) (a : Int) :
    Calls Try.prog 52 #[.pointer (some ⟨hb, 0, none⟩), .int .i64 a] w fun e w' => e = .returned (.bool (inR ns a)) ∧ w = w' := by
  obtain ⟨A, c, _, _, _, h1, _, _⟩ := h.open_
  clear h
  by_cases h0 : 0 ≤ a
  · go_enter Try.func52, Try.ntmps52
    go_wp2
    go_ret
    simp [h0, inR]
  · have hd : decide (0 ≤ a) = false := by simpa using h0
    go_enter Try.func52, Try.ntmps52
    go_wp2
    go_ret
    simp [inR]; omega

/-- A call that makes a row of whole numbers, and changes nothing. -/
def RetInts (w : World) (l : List Int) (e : Ending) (w' : World) : Prop :=
  ∃ v, e = .returned v ∧ w'.ownsRow w.heap.size 3 1 v l.length (ints l) ∧ Kept No w w'

theorem fresh_any (F : Nat → Prop) (v : Value) (l : List Int) (w : World) (hb : l.length ≤ 1000000) (h : RowR w 1 F v l.length (ints l)) : Calls Try.prog 53 #[v] w (RetInts w l) := by
  obtain ⟨A, c, rfl⟩ := h.slice
  obtain ⟨d, w1, hmk, ⟨A1, c1, rfl⟩, ho1, hg1⟩ := run_make_one (P := Try.prog) Try.underlying22 info3 rfl l.length (by omega) (by omega) w
  have k1 : Kept No w w1 := Kept.of_grown hg1 (by simp)
  obtain ⟨w2, hcp, ho2, hg2⟩ := run_copy_whole (P := Try.prog) Try.underlying22 size3 ho1 (h.keptNo k1) (ints_one l) 3
  have k2 : Kept No w w2 := k1.grown hg2 (fun k hk hlt => by have := (ho1.lt k hk).1; omega)
  have HF := Lib.hid (show RetInts w l (.returned (.slice A1 l.length c1)) w2 from ⟨_, rfl, ho2, k2⟩)
  clear ho1 hg1 ho2 hg2 k1 k2 h
  go_enter Try.func53, Try.ntmps53
  go_wp2
  go_ret
  exact HF.out

/-- A node's value. -/
def ndVal (a : Value) (n : Nd) : Value := .agg #[.int .i64 n.sym, a, .int .i64 n.mark, .bool n.pts, .int .i64 n.to]

/-- A call that makes a node in new memory, and changes nothing. -/
def RetNd (w : World) (n : Nd) (e : Ending) (w' : World) : Prop :=
  ∃ a, e = .returned (ndVal a n) ∧ w'.ownsRow w.heap.size 3 1 a n.args.length (ints n.args) ∧ Kept No w w'

theorem own_any (F : Nat → Prop) (a : Value) (n : Nd) (w : World) (hb : n.args.length ≤ 1000000) (h : RowR w 1 F a n.args.length (ints n.args)) : Calls Try.prog 54 #[ndVal a n] w (RetNd w n) := by
  unfold ndVal
  go_enter Try.func54, Try.ntmps54
  go_wp2_with fail
  refine (fresh_any F a n.args _ hb (h.keptNo (((Kept.refl _ _).alloc _).alloc _))).mono ?_
  rintro e w3 ⟨v, rfl, ho, hk⟩
  have g0 : w3.heap[w.heap.size]? = _ := hk.blk (blk_alloc (heap_alloc_new w _) _) (fun h => h)
  have g1 : w3.heap[w.heap.size + 1]? = _ := hk.blk (b := w.heap.size + 1) (by simpa using heap_alloc_new (w.alloc _) _) (fun h => h)
  obtain ⟨⟨p0, p1, p2, p3, p4⟩, q0, q1, q2, q3, q4⟩ := cells5 g0
  obtain ⟨⟨r0, r1, r2, r3, r4⟩, s0, s1, s2, s3, s4⟩ := cells5 g1
  have hz := hk.size
  simp only [World.size_alloc] at hz ho
  obtain ⟨A, c, rfl⟩ := (own_reads ho (F := fun _ => True) (fun _ _ => trivial)).slice
  have k0 : Kept No w w3 := (((Kept.refl _ _).alloc _).alloc _).thenNo hk
  obtain ⟨hf, hkf⟩ := store5 (blk_far (p := ⟨w.heap.size, 1, none⟩) g1 (by simp) (.slice A n.args.length c)) (.int .i64 n.sym) (.slice A n.args.length c) (.int .i64 n.mark) (.bool n.pts) (.int .i64 n.to)
  have k1 := (k0.setCell (p := ⟨w.heap.size, 1, none⟩) (.inr (Nat.le_refl _)) (.slice A n.args.length c)).trans hkf (fun i hi e => by omega)
  have o1 := own_kept (own_kept ho ((Kept.refl (fun k => k = w.heap.size) w3).setCell (p := ⟨w.heap.size, 1, none⟩) (.inl rfl) (.slice A n.args.length c)) (fun k hk e => by have := (ho.lt k hk).1; omega)) hkf (fun k hk e => by have := (ho.lt k hk).1; omega)
  have HF := Lib.hid (And.intro hf (show RetNd w n (.returned (ndVal (.slice A n.args.length c) n)) _ from ⟨_, rfl, own_base o1 (fun k hk => by have := (ho.lt k hk).1; omega), k1⟩))
  clear hk ho h k0 hf hkf k1 o1 g0 g1
  go_wp2
  exact bodyPost_ret (results_cell_row rfl _ _ _ _ _ _ _ rfl HF.out.1 Try.underlying32 rfl (by kernel_rfl)) rfl HF.out.2

/-- Two results, the first in a block of five cells. -/
theorem results_nd {fn : Func} {p u : Tmp} (hres : fn.results = #[.cell p 32, .tmp u]) (tmps : Array Value) (w : World) (g : Nat) (cs : Array Value)
    (hp : tmps.getD p undef = .pointer (some ⟨g, 0, none⟩)) (hg : w.heap[g]? = some (.cells cs 32 (0, 0))) (hs : cs.size = 5) :
    (results fn tmps).run Try.prog w = .ok (.tuple #[.agg cs, tmps.getD u undef]) w := by
  rw [results_cell_tmp hres, hp]
  have hi : (Try.prog.info? 32).map (·.size) = some cs.size := by rw [hs]; kernel_rfl
  simp [asAddr, run_loadVar_row w g 32 32 cs (0, 0) _ hg Try.underlying32 rfl hi]

/-- At's answer. -/
def RetAt (w : World) (n : Nd) (err : Int) (e : Ending) (w' : World) : Prop :=
  ∃ a, e = .returned (.tuple #[ndVal a n, .int .i64 err]) ∧ w'.ownsRow w.heap.size 3 1 a n.args.length (ints n.args) ∧ Kept No w w'

theorem at_no {F : Nat → Prop} {hb : Nat} {room : Int} {ns : List Nd} {w : World} (h : HeapO w F hb room ns) (a : Int) (hi : inR ns a = false) :
    Calls Try.prog 23 #[.pointer (some ⟨hb, 0, none⟩), .int .i64 a] w (RetAt w Nd.zero 112) := by
  have H := Lib.hid h
  have HI := Lib.hid hi
  clear h hi
  go_enter Try.func23, Try.ntmps23
  go_wp2_with fail
  refine (has_any (H.out.keptNo ((Kept.refl _ _).alloc _)) a).mono ?_
  rintro e w1 ⟨rfl, hw⟩
  rw [HI.out]
  have g1 : w1.heap[w.heap.size]? = _ := hw ▸ heap_alloc_new w _
  have k1 : Kept No w w1 := hw ▸ (Kept.refl No w).alloc _
  clear hw
  obtain ⟨⟨r0, r1, r2, r3, r4⟩, s0, s1, s2, s3, s4⟩ := cells5 g1
  obtain ⟨hf, hkf⟩ := store5 g1 (.int .i64 0) (.slice none 0 0) (.int .i64 0) (.bool false) (.int .i64 0)
  have HF := Lib.hid (And.intro hf (show RetAt w Nd.zero 112 (.returned (.tuple #[ndVal (.slice none 0 0) Nd.zero, .int .i64 112])) _ from ⟨_, rfl, World.ownsRow_nil _ _ _ _, k1.trans hkf (fun i hi e => by omega)⟩))
  clear hf hkf g1 k1
  go_wp2_with fail
  exact bodyPost_ret (results_nd (p := 4) (u := 5) rfl _ _ _ _ rfl HF.out.1 rfl) rfl HF.out.2

theorem at_yes {F : Nat → Prop} {hb : Nat} {room : Int} {ns : List Nd} {w : World} (h : HeapO w F hb room ns) (a : Int) (n : Nd) (hi : ndAt ns a = some n) (hs : n.args.length ≤ 1000000) :
    Calls Try.prog 23 #[.pointer (some ⟨hb, 0, none⟩), .int .i64 a] w (RetAt w n 0) := by
  obtain ⟨hin, hget⟩ := ndAt_inR hi
  have ha := inR_iff.1 hin
  obtain ⟨ha0, ha1⟩ := ha
  have H := Lib.hid h
  have HI := Lib.hid hin
  have HG := Lib.hid hget
  clear h hin hget hi
  go_enter Try.func23, Try.ntmps23
  go_wp2_with fail
  refine (has_any (H.out.keptNo ((Kept.refl _ _).alloc _)) a).mono ?_
  rintro e w1 ⟨rfl, hw⟩
  rw [HI.out]
  have g1 : w1.heap[w.heap.size]? = _ := hw ▸ heap_alloc_new w _
  have k1 : Kept No w w1 := hw ▸ (Kept.refl No w).alloc _
  clear hw
  obtain ⟨A, c, _, _, _, h1, _, hn⟩ := (H.out.keptNo k1).open_
  obtain ⟨b, o, c', av, he, _, _, c0, c1, c2, c3, c4, hr⟩ := hn.reads.at_ HG.out
  injection he with he _ hc
  subst he hc
  have G1 := Lib.hid g1
  have K1 := Lib.hid k1
  have HR := Lib.hid hr
  clear g1 k1 hr hn
  go_wp2_with fail
  refine (own_any F av n _ hs HR.out).mono ?_
  rintro e w2 ⟨a2, rfl, ho, hk⟩
  dsimp only [ndVal]
  obtain ⟨A2, c2', rfl⟩ := (own_reads ho (F := fun _ => True) (fun _ _ => trivial)).slice
  have g2 := hk.blk G1.out (fun h => h)
  have hz := K1.out.size
  have hlt := (Array.getElem?_eq_some_iff.1 G1.out).1
  obtain ⟨⟨r0, r1, r2, r3, r4⟩, s0, s1, s2, s3, s4⟩ := cells5 g2
  obtain ⟨hf, hkf⟩ := store5 g2 (.int .i64 n.sym) (.slice A2 n.args.length c2') (.int .i64 n.mark) (.bool n.pts) (.int .i64 n.to)
  have o2 := own_kept ho hkf (fun k hk e => by have := (ho.lt k hk).1; omega)
  have HF := Lib.hid (And.intro hf (show RetAt w n 0 (.returned (.tuple #[ndVal (.slice A2 n.args.length c2') n, .int .i64 0])) _ from
    ⟨_, rfl, own_base o2 (fun k hk => by have := (ho.lt k hk).1; omega), (K1.out.thenNo hk).trans hkf (fun i hi e => by omega)⟩))
  clear hf hkf g2 o2 ho hk hz hlt K1 G1 HR
  go_wp2_with fail
  exact bodyPost_ret (results_nd (p := 4) (u := 5) rfl _ _ _ _ rfl HF.out.1 rfl) rfl HF.out.2

theorem new_no (room : Int) (w : World) (h : ¬ (1 ≤ room ∧ room ≤ 4000)) : Calls Try.prog 21 #[.int .i64 room] w fun e w' => e = .returned (.tuple #[.pointer none, .int .i64 110]) ∧ w = w' := by
  by_cases h1 : room < 1
  · go_enter Try.func21, Try.ntmps21
    go_wp2
    go_ret2
    exact ⟨rfl, rfl⟩
  · have h2 : 4000 < room := by omega
    have h3 : decide (room < 1) = false := by simpa using h1
    clear h
    go_enter Try.func21, Try.ntmps21
    go_wp2
    go_ret2
    exact ⟨rfl, rfl⟩
theorem new_yes (room : Int) (w : World) (h1 : 1 ≤ room) (h2 : room ≤ 4000) : Calls Try.prog 21 #[.int .i64 room] w fun e w' => e = .returned (.tuple #[.pointer (some ⟨w.heap.size, 0, none⟩), .int .i64 0]) ∧ w.alloc (.cells #[.int .i64 room, .slice none 0 0] 91) = w' := by
  have h3 : decide (room < 1) = false := by simpa using h1
  go_enter Try.func21, Try.ntmps21
  go_wp2
  go_ret2
  exact ⟨rfl, rfl⟩
/-- A new heap. -/
theorem heap_new (w : World) (room : Int) : HeapO (w.alloc (.cells #[.int .i64 room, .slice none 0 0] 91)) (fun k => k = w.heap.size) w.heap.size room [] :=
  ⟨_, heap_alloc_new w _, rfl, NodesO.nil _ _⟩
end Go.Proofs.Ytooalgnppnmeaaa
