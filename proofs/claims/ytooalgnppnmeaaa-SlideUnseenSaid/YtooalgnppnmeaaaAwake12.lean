/- The chapter's example: the walk. -/
import Derived.Test.YtooalgnppnmeaaaSlideEx
import Derived.Test.YtooalgnppnmeaaaL11a
namespace Go.Proofs.Ytooalgnppnmeaaa
open Go.RowKit

theorem ex_flat {w : World} {G : Nat → Prop} {v a b c : Value} (hr : RowR w 5 G v 6 (flat [.slice none 0 0, a, .slice none 0 0, b, .slice none 0 0, c] exL)) (ha : RowR w 1 G a 1 (ints [0])) (hb : RowR w 1 G b 2 (ints [1, 2])) (hc : RowR w 1 G c 1 (ints [4])) : NodesR w G v exL := by
  refine ⟨_, rfl, hr, fun i x n hx hn => ?_⟩
  have hl := (List.getElem?_eq_some_iff.1 hn).1
  have hl : i < 6 := hl
  have h0 : ∀ {m : Nd}, (some m : Option Nd) = some n → m = n := fun h => by injection h
  match i, hl with
  | 0, _ => simp at hx; subst hx; rw [← h0 hn]; exact RowR.nil w 1 G
  | 1, _ => simp at hx; subst hx; rw [← h0 hn]; exact ha
  | 2, _ => simp at hx; subst hx; rw [← h0 hn]; exact RowR.nil w 1 G
  | 3, _ => simp at hx; subst hx; rw [← h0 hn]; exact hb
  | 4, _ => simp at hx; subst hx; rw [← h0 hn]; exact RowR.nil w 1 G
  | 5, _ => simp at hx; subst hx; rw [← h0 hn]; exact hc
theorem ex_rows (w : World) : NodesR ((((w.alloc (.cells #[.int .i64 0] 3)).alloc (.cells #[.int .i64 1, .int .i64 2] 3)).alloc (.cells #[.int .i64 4] 3)).alloc (.cells #[.int .i64 1, .slice none 0 0, .int .i64 0, .bool false, .int .i64 0,
      .int .i64 2, .slice (some ⟨w.heap.size, 0, none⟩) 1 1, .int .i64 0, .bool false, .int .i64 0, .int .i64 1, .slice none 0 0, .int .i64 0, .bool false, .int .i64 0,
      .int .i64 3, .slice (some ⟨w.heap.size + 1, 0, none⟩) 2 2, .int .i64 0, .bool false, .int .i64 0, .int .i64 0, .slice none 0 0, .int .i64 0, .bool true, .int .i64 3,
      .int .i64 4, .slice (some ⟨w.heap.size + 1 + 1, 0, none⟩) 1 1, .int .i64 1, .bool false, .int .i64 0] 32)) (Fr w.heap.size) (.slice (some ⟨w.heap.size + 1 + 1 + 1, 0, none⟩) 6 6) exL := by
  have z1 : (w.alloc (.cells #[.int .i64 0] 3)).heap.size = w.heap.size + 1 := by simp
  have z2 : ((w.alloc (.cells #[.int .i64 0] 3)).alloc (.cells #[.int .i64 1, .int .i64 2] 3)).heap.size = w.heap.size + 1 + 1 := by simp
  have z3 : (((w.alloc (.cells #[.int .i64 0] 3)).alloc (.cells #[.int .i64 1, .int .i64 2] 3)).alloc (.cells #[.int .i64 4] 3)).heap.size = w.heap.size + 1 + 1 + 1 := by simp
  have ka : ∀ (W : World) o, Kept No W (W.alloc o) := fun W o => (Kept.refl No W).alloc o
  have ra := RowR.new w 1 1 #[.int .i64 0] 3 rfl
  have rb := RowR.new (w.alloc (.cells #[.int .i64 0] 3)) 1 2 #[.int .i64 1, .int .i64 2] 3 rfl
  have rc := RowR.new ((w.alloc (.cells #[.int .i64 0] 3)).alloc (.cells #[.int .i64 1, .int .i64 2] 3)) 1 1 #[.int .i64 4] 3 rfl
  have rn := RowR.new (((w.alloc (.cells #[.int .i64 0] 3)).alloc (.cells #[.int .i64 1, .int .i64 2] 3)).alloc (.cells #[.int .i64 4] 3)) 5 6 #[.int .i64 1, .slice none 0 0, .int .i64 0, .bool false, .int .i64 0,
      .int .i64 2, .slice (some ⟨w.heap.size, 0, none⟩) 1 1, .int .i64 0, .bool false, .int .i64 0, .int .i64 1, .slice none 0 0, .int .i64 0, .bool false, .int .i64 0,
      .int .i64 3, .slice (some ⟨w.heap.size + 1, 0, none⟩) 2 2, .int .i64 0, .bool false, .int .i64 0, .int .i64 0, .slice none 0 0, .int .i64 0, .bool true, .int .i64 3,
      .int .i64 4, .slice (some ⟨w.heap.size + 1 + 1, 0, none⟩) 1 1, .int .i64 1, .bool false, .int .i64 0] 32 rfl
  rw [z1] at rb
  rw [z2] at rc
  rw [z3] at rn
  exact ex_flat (rn.mono (fun k hk _ => by unfold Fr; omega)) ((((ra.keptNo (ka _ _)).keptNo (ka _ _)).keptNo (ka _ _)).mono (fun k hk _ => by unfold Fr; omega))
    (((rb.keptNo (ka _ _)).keptNo (ka _ _)).mono (fun k hk _ => by unfold Fr; omega)) ((rc.keptNo (ka _ _)).mono (fun k hk _ => by unfold Fr; omega))

set_option maxRecDepth 100000 in
set_option maxHeartbeats 4000000 in
theorem awake12_any (w : World) : Calls Try.prog 38 #[] w (RetYes w) := by
  go_enter Try.func38, Try.ntmps38
  go_wp2_with fail
  refine (new_yes 6 _ (by decide) (by decide)).mono ?_
  rintro e w1 ⟨rfl, hw⟩
  have h1 : HeapO w1 (fun k => k = w.heap.size) w.heap.size 6 [] := hw ▸ heap_new w 6
  have k1 : Kept No w w1 := hw ▸ (Kept.refl _ w).alloc _
  have z1 : w1.heap.size = w.heap.size + 1 := by rw [← hw]; simp
  clear hw
  generalize hN : w.heap.size = N at *
  have HN := Lib.hid hN
  have H1 := Lib.hid h1
  have K1 := Lib.hid k1
  have Z1 := Lib.hid z1
  clear h1 hN k1 z1
  go_wp2_with fail
  have hrf := refill_any (H1.out.keptNo ((((Kept.refl No w1).alloc (.cells #[.int .i64 0] 3)).alloc (.cells #[.int .i64 1, .int .i64 2] 3)).alloc (.cells #[.int .i64 4] 3) |>.alloc _)) (ex_rows w1) (by decide) (by decide) (by decide)
  rw [refill_good ex_good] at hrf
  refine hrf.mono ?_
  clear hrf
  rintro e w2 ⟨rfl, h2, k2⟩
  have kk : Kept (fun k => k = N) w1 w2 := (((((Kept.refl _ w1).alloc _).alloc _).alloc _).alloc _).trans k2 (fun _ _ h => h)
  have z2 := kk.size
  have z12 := k2.size
  simp only [World.size_alloc] at z12
  have F2 : Hid (HeapO w2 (fun k => N ≤ k ∧ k < w2.heap.size) N 6 exL) := h2.mono (fun k hk hlt => by
    have := Z1.out
    rcases hk with hk | hk
    · omega
    · simp only [World.size_alloc] at hk; omega)
  have K2 : Hid (Kept No w w2) := K1.out.trans kk (fun k hlt hk => by have := HN.out; omega)
  clear h2 k2 kk K1 H1 z12
  dsimp only
  go_wp2_with fail
  have b2 : Bnd (fun k => N ≤ k ∧ k < w2.heap.size) w2 := fun k hk => hk.2
  refine (live_any (F2.out.keptNo ((Kept.refl No w2).alloc _)) ex_good.sane ex_good.acyc (by decide) ex_is (roots := [4]) (RowR.new w2 1 1 #[.int .i64 4] 3 rfl) (by decide)).mono ?_
  rintro e w3 ⟨v3, rfl, o3, k3⟩
  rw [ex_live] at o3
  rw [show errOf exL [4] = 0 by decide]
  have K23 : Hid (Kept No w2 w3) := ((Kept.refl No w2).alloc _).thenNo k3
  have K3 := Lib.hid (K2.out.thenNo K23.out)
  have F3 := Lib.hid (F2.out.keptNo K23.out)
  obtain ⟨A3, c3, rfl⟩ := (own_reads o3 (F := fun _ => True) (fun _ _ => trivial)).slice
  have z3 := K23.out.size
  have O3 := Lib.hid o3
  clear k3 o3 F2 K2
  go_wp2_with fail
  refine (collect_any (F3.out.keptNo ((Kept.refl No w3).alloc _)) (fun k hk => by simp; omega) ex_good (by decide) ex_is (roots := [5, 2, 5]) (RowR.new w3 1 3 #[.int .i64 5, .int .i64 2, .int .i64 5] 3 rfl) (fun k hk h => by omega) (by decide)).mono ?_
  rintro e w4 ⟨_, hc⟩
  obtain ⟨v4, m, rfl, h4, o4, hm1, hm2, k4⟩ := hc (by decide)
  simp only [World.size_alloc] at h4 hm1
  rw [ex_to] at o4
  rw [ex_slide] at h4 ⊢
  have k34 : Kept (fun k => N ≤ k ∧ k < w2.heap.size) w3 w4 := ((Kept.refl _ w3).alloc _).trans k4 (fun _ _ h => h)
  have H4 := Lib.hid h4
  have K4 : Hid (Kept No w w4) := K3.out.trans k34 (fun k hlt hk => by have := HN.out; omega)
  obtain ⟨A4, c4, rfl⟩ := (own_reads o4 (F := fun _ => True) (fun _ _ => trivial)).slice
  have O4 := Lib.hid o4
  have O34 := Lib.hid (own_kept O3.out k34 (fun k hk hf => by have := (O3.out.lt k hk).1; simp only [World.size_alloc] at this; omega))
  clear k34 k4 h4 o4 K3 F3 O3 hc
  rw [show ((exL.length : Int) - (exM.length : Int)) = 1 by decide]
  clear b2
  go_wp2_with fail
  refine (at_yes H4.out 4 ⟨4, [3], 1, false, 0⟩ (by decide) (by decide)).mono ?_
  rintro e w5 ⟨a, rfl, ho, k5⟩
  dsimp only [ndVal]
  obtain ⟨A, c, rfl⟩ := (own_reads ho (F := fun _ => True) (fun _ _ => trivial)).slice
  have kb : Kept No w5 (w5.alloc (.cells #[.int .i64 4, .slice A 1 c, .int .i64 1, .bool false, .int .i64 0] 32)) := (Kept.refl No w5).alloc _
  have kk := k5.thenNo kb
  have o3 : World.ownsRow _ _ 3 1 (.slice A3 4 c3) 4 (ints [0, 1, 2, 3]) := own_kept O34.out kk (fun _ _ hn => hn)
  have o4 : World.ownsRow _ _ 3 1 (.slice A4 3 c4) 3 (ints [4, 2, 4]) := own_kept O4.out kk (fun _ _ hn => hn)
  have o5 : World.ownsRow _ _ 3 1 (.slice A 1 c) 1 (ints [3]) := own_kept ho kb (fun _ _ hn => hn)
  obtain ⟨g3, _, u, he, hu, p0, _⟩ := own_get o3 (i := 3) (by decide)
  injection he with he _ hc
  subst he hc
  have hu : Value.int .i64 3 = u := by injection hu
  subst hu
  obtain ⟨g4, _, u, he, hu, p1, _⟩ := own_get o4 (i := 0) (by decide)
  injection he with he _ hc
  subst he hc
  have hu : Value.int .i64 4 = u := by injection hu
  subst hu
  obtain ⟨_, _, u, he, hu, p2, _⟩ := own_get o4 (i := 1) (by decide)
  injection he with he _ hc
  injection he with he
  injection he with he
  subst he
  have hu : Value.int .i64 2 = u := by injection hu
  subst hu
  obtain ⟨_, _, u, he, hu, p3, _⟩ := own_get o4 (i := 2) (by decide)
  injection he with he _ hc
  injection he with he
  injection he with he
  subst he
  have hu : Value.int .i64 4 = u := by injection hu
  subst hu
  obtain ⟨g5, _, u, he, hu, p4, _⟩ := own_get o5 (i := 0) (by decide)
  injection he with he _ hc
  subst he hc
  have hu : Value.int .i64 3 = u := by injection hu
  subst hu
  have H5 := Lib.hid (H4.out.keptNo kk)
  have K5 := Lib.hid (K4.out.thenNo kk)
  clear k5 kb kk o3 o4 o5 ho H4 K4 O4 O34
  go_wp2_with fail
  refine (used_any H5.out).mono ?_
  rintro e w6 ⟨rfl, rfl⟩
  go_wp2_with fail
  go_ret
  exact ⟨rfl, K5.out⟩
end Go.Proofs.Ytooalgnppnmeaaa
