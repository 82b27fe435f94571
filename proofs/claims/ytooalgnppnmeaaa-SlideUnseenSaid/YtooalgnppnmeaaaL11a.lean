/- Layer 11's laws: pick, awake. -/
import Derived.Test.YtooalgnppnmeaaaH2
import Derived.IntWalk
namespace Go.Proofs.Ytooalgnppnmeaaa
open Go.RowKit

/-- Which of n things a raw number speaks of. -/
def pickP (c n : Int) : Int := (if c < 0 then -(c + 1) else c) % n
theorem pickP_range (c n : Int) (hn : 0 < n) : 0 ≤ pickP c n ∧ pickP c n < n := ⟨Int.emod_nonneg _ (by omega), Int.emod_lt_of_pos _ hn⟩
/-- A number of the kind int. -/
def I64 (c : Int) : Prop := -9223372036854775808 ≤ c ∧ c ≤ 9223372036854775807

theorem ret_int' {k : IntKind} {a b : Int} (h : a = b) : Ending.returned (.int k a) = .returned (.int k b) := by rw [h]
theorem pick_any (c n : Int) (w : World) (hc : I64 c) (hn : 0 < n) (hn2 : n ≤ 1000000) : Calls Try.prog 20 #[.int .i64 c, .int .i64 n] w fun e w' => e = .returned (.int .i64 (pickP c n)) ∧ w = w' := by
  unfold I64 at hc
  obtain ⟨h1, h2⟩ := hc
  by_cases h0 : c < 0
  · have e : pickP c n = (-(c + 1)) % n := by unfold pickP; rw [if_pos h0]
    rw [e]
    have b1 : 0 ≤ -(c + 1) := by omega
    have b2 : -(c + 1) ≤ 9223372036854775807 := by omega
    have hne : (n == 0) = false := by simp; omega
    clear e
    go_enter Try.func20, Try.ntmps20
    go_wp2
    go_ret
    exact ⟨ret_int' (by rw [← Int.neg_tmod]; exact Int.tmod_eq_emod_of_nonneg b1), rfl⟩
  · have e : pickP c n = c % n := by unfold pickP; rw [if_neg h0]
    rw [e]
    have b1 : 0 ≤ c := by omega
    have hne : (n == 0) = false := by simp; omega
    clear e
    go_enter Try.func20, Try.ntmps20
    go_wp2
    go_ret
    exact ⟨ret_int' rfl, rfl⟩

def RetYes (w : World) (e : Ending) (w' : World) : Prop := e = .returned (.bool true) ∧ Kept No w w'

set_option maxRecDepth 100000 in
theorem awake11_any (w : World) : Calls Try.prog 19 #[] w (RetYes w) := by
  go_enter Try.func19, Try.ntmps19
  go_wp2_with fail
  refine (new_yes 3 _ (by decide) (by decide)).mono ?_
  rintro e w1 ⟨rfl, hw⟩
  have h1 : HeapN w.heap.size w1 w.heap.size 3 [] := hw ▸ HeapN.of (heap_new w 3) (fun k hk _ => Nat.le_of_eq hk.symm)
  have k1 : Kept (Fr w.heap.size) w w1 := hw ▸ (Kept.refl _ w).alloc _
  clear hw
  generalize hN : w.heap.size = N at *
  have HN := Lib.hid hN
  have H1 := Lib.hid h1
  clear h1 hN
  go_wp2_with fail
  refine (makeN H1.out 5 _ [] (RowR.nil w1 1 No) (by decide) (p := ([⟨5, [], 0, false, 0⟩], 0, 0)) (by decide)).mono ?_
  rintro e w2 ⟨rfl, h2, k2⟩
  dsimp only at h2 ⊢
  have H2 := Lib.hid h2
  have K2 := Lib.hid (k1.trans k2 (fun _ _ h => h))
  clear k1 k2 h2 H1
  go_wp2_with fail
  refine (makeN (H2.out.keptNo ((Kept.refl No w2).alloc _)) 7 _ [0, 0] (RowR.new w2 1 2 #[.int .i64 0, .int .i64 0] 3 rfl) (by decide) (p := ([⟨5, [], 0, false, 0⟩, ⟨7, [0, 0], 0, false, 0⟩], 1, 0)) (by decide)).mono ?_
  rintro e w3 ⟨rfl, h3, k3⟩
  dsimp only at h3 ⊢
  have H3 := Lib.hid h3
  have K3 := Lib.hid ((K2.out.alloc _).trans k3 (fun _ _ h => h))
  clear k3 h3 H2 K2
  go_wp2_with fail
  refine (makeN (H3.out.keptNo ((Kept.refl No w3).alloc _)) 8 _ [2] (RowR.new w3 1 1 #[.int .i64 2] 3 rfl) (by decide) (p := ([⟨5, [], 0, false, 0⟩, ⟨7, [0, 0], 0, false, 0⟩], 0, 112)) (by decide)).mono ?_
  rintro e w4 ⟨rfl, h4, k4⟩
  dsimp only at h4 ⊢
  have H4 := Lib.hid h4
  have K4 := Lib.hid ((K3.out.alloc _).trans k4 (fun _ _ h => h))
  clear k4 h4 H3 K3
  go_wp2_with fail
  refine (at_yes H4.out.1 1 ⟨7, [0, 0], 0, false, 0⟩ (by decide) (by decide)).mono ?_
  rintro e w5 ⟨a, rfl, ho, k5⟩
  dsimp only [ndVal]
  obtain ⟨A, c, rfl⟩ := (own_reads ho (F := fun _ => True) (fun _ _ => trivial)).slice
  have H5 := Lib.hid (H4.out.keptNo k5)
  have K5 := Lib.hid (K4.out.thenNo k5)
  clear k5 H4 K4 ho
  go_wp2_with fail
  refine (room_any (H5.out.keptNo ((Kept.refl No w5).alloc _)).1).mono ?_
  rintro e w6 ⟨rfl, hw⟩
  have H6 := Lib.hid (hw ▸ H5.out.keptNo ((Kept.refl No w5).alloc _) : HeapN N w6 N 3 _)
  have K6 := Lib.hid (hw ▸ K5.out.alloc _ : Kept (Fr N) w w6)
  clear hw H5 K5
  go_wp2_with fail
  refine (used_any H6.out.1).mono ?_
  rintro e w7 ⟨rfl, rfl⟩
  go_wp2_with fail
  go_ret
  refine ⟨rfl, ?_⟩
  have := K6.out
  rw [← HN.out] at this
  exact this.toNo
end Go.Proofs.Ytooalgnppnmeaaa
