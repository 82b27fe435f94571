/- Layer 11's laws: step, grown. -/
import Derived.Test.YtooalgnppnmeaaaL11a
import Derived.Test.YtooalgnppnmeaaaS2
import Derived.Deep.RegionLaw
namespace Go.Proofs.Ytooalgnppnmeaaa
open Go.RowKit

/-- A raw call. -/
structure Rw where
  kind : Int
  n : Int
  m : Int
  k : Int
def Rw.ok (x : Rw) : Prop := I64 x.kind ∧ I64 x.n ∧ I64 x.m ∧ I64 x.k
def rwVal (x : Rw) : Value := .agg #[.int .i64 x.kind, .int .i64 x.n, .int .i64 x.m, .int .i64 x.k]
def many (ns : List Nd) : Int := if ns.length = 0 then 1 else ns.length
theorem many_pos (ns : List Nd) : 0 < many ns := by unfold many; split <;> omega
theorem many_le (ns : List Nd) (h : ns.length ≤ 4000) : many ns ≤ 4000 := by unfold many; split <;> omega

/-- What a raw call does. -/
def StepR (room : Int) (ns : List Nd) (x : Rw) (p : List Nd × Int) : Prop :=
  (4 ≤ pickP x.kind 7 ∧ pickP x.kind 7 ≤ 5 ∧ p = pointP ns (pickP x.n (many ns)) (pickP x.m (many ns))) ∨
  (pickP x.kind 7 = 6 ∧ p = markP ns (pickP x.n (many ns)) (pickP x.m 3)) ∨
  (pickP x.kind 7 < 4 ∧ ∃ (sym : Int) (l : List Int), 0 ≤ sym ∧ l.length ≤ 3 ∧ (∀ a ∈ l, inR ns a = true) ∧ p = ((makeP room ns sym l).1, (makeP room ns sym l).2.2))

def RetStep (w : World) (F : Nat → Prop) (hb : Nat) (room : Int) (ns : List Nd) (x : Rw) (e : Ending) (w' : World) : Prop :=
  ∃ p, StepR room ns x p ∧ e = .returned (.int .i64 p.2) ∧ HeapO w' (Grow F w w') hb room p.1 ∧ Kept F w w'

theorem i64_wrap (z : Int) : I64 (wrap64 z) := by unfold I64 wrap64; omega

set_option maxRecDepth 100000 in
set_option maxHeartbeats 4000000 in
theorem step_any {F : Nat → Prop} {hb : Nat} {room : Int} {ns : List Nd} {w : World} (h : HeapO w F hb room ns) (hF : Bnd F w) (hs : Sane ns) (hroom : room ≤ 4000) (hlen : ns.length ≤ 4000) (x : Rw) (hx : x.ok) :
    Calls Try.prog 30 #[.pointer (some ⟨hb, 0, none⟩), rwVal x] w (RetStep w F hb room ns x) := by
  have H := Lib.hid h
  have HS := Lib.hid hs
  have HF := Lib.hid hF
  obtain ⟨x1, x2, x3, x4⟩ := hx
  have hn0 := many_pos ns
  have hn1 := many_le ns hlen
  have hk := pickP_range x.kind 7 (by decide)
  have hmx : (if (ns.length : Int) < 1 then (1 : Int) else ns.length) = many ns := by unfold many; split <;> split <;> omega
  clear h hs hF
  unfold rwVal
  go_enter Try.func30, Try.ntmps30
  go_wp2_with fail
  refine (used_any (H.out.keptNo ((Kept.refl No w).alloc _))).mono ?_
  rintro e w1 ⟨rfl, hw⟩
  have g1 : w1.heap[w.heap.size]? = _ := hw ▸ heap_alloc_new w _
  have k1 : Kept No w w1 := hw ▸ (Kept.refl No w).alloc _
  clear hw
  have c0 : w1.cell? ⟨w.heap.size, 0, none⟩ = some (.int .i64 x.kind) := by rw [cell_of_row _ _ _ _ _ _ g1]; rfl
  have c1 : w1.cell? ⟨w.heap.size, 1, none⟩ = some (.int .i64 x.n) := by rw [cell_of_row _ _ _ _ _ _ g1]; rfl
  have c2 : w1.cell? ⟨w.heap.size, 2, none⟩ = some (.int .i64 x.m) := by rw [cell_of_row _ _ _ _ _ _ g1]; rfl
  have c3 : w1.cell? ⟨w.heap.size, 3, none⟩ = some (.int .i64 x.k) := by rw [cell_of_row _ _ _ _ _ _ g1]; rfl
  have K1 := Lib.hid k1
  have hlt1 := (Array.getElem?_eq_some_iff.1 g1).1
  clear g1 k1
  go_wp2_with fail
  refine (pick_any x.kind 7 _ x1 (by decide) (by decide)).mono ?_
  rintro e w2 ⟨rfl, rfl⟩
  by_cases h45 : 4 ≤ pickP x.kind 7 ∧ pickP x.kind 7 ≤ 5
  · obtain ⟨h4, h5⟩ := h45
    have hpn := pickP_range x.n (many ns) hn0
    have hpm := pickP_range x.m (many ns) hn0
    have hk1' : Kept No w w1.drew := K1.out.drew
    have hpt := Lib.hid (point_any (H.out.keptNo hk1') HS.out hlen (pickP x.n (many ns)) (pickP x.m (many ns)))
    have hz := K1.out.size
    have fin : Hid (∀ e w5, RetErr w1.drew F hb room (pointP ns (pickP x.n (many ns)) (pickP x.m (many ns))) e w5 → RetStep w F hb room ns x (.returned (.int .i64 (pointP ns (pickP x.n (many ns)) (pickP x.m (many ns))).2)) w5) := fun e w5 ⟨_, h2, h3⟩ =>
      ⟨pointP ns (pickP x.n (many ns)) (pickP x.m (many ns)), .inl ⟨h4, h5, rfl⟩, rfl, h2.mono (fun b hb _ => .inl hb), (hk1'.all).trans h3 (fun _ _ h => h)⟩
    have hn2 : many ns ≤ 1000000 := by omega
    clear hk1'
    by_cases he4 : pickP x.kind 7 = 4
    · have b4 : (pickP x.kind 7 == 4) = true := by simp; omega
      clear he4
      go_wp2_with fail
      go_region_law (first | (go_simp; go_at_call 20; refine (pick_any _ _ _ (by assumption) hn0 hn2).mono ?_; rintro e w3 ⟨rfl, rfl⟩) | (go_simp; go_at_call 51; refine hpt.out.mono ?_; intro e w5 hr5; have he := hr5.1; subst he; have FN := Lib.hid (fin.out _ _ hr5); clear hr5))
      all_goals
        go_wp2_with fail
        go_ret
        exact FN.out
    · have b4 : (pickP x.kind 7 == 4) = false := by simp; omega
      have b5 : (pickP x.kind 7 == 5) = true := by simp; omega
      clear he4
      go_wp2_with fail
      go_region_law (first | (go_simp; go_at_call 20; refine (pick_any _ _ _ (by assumption) hn0 hn2).mono ?_; rintro e w3 ⟨rfl, rfl⟩) | (go_simp; go_at_call 51; refine hpt.out.mono ?_; intro e w5 hr5; have he := hr5.1; subst he; have FN := Lib.hid (fin.out _ _ hr5); clear hr5))
      all_goals
        go_wp2_with fail
        go_ret
        exact FN.out
  · by_cases h6 : pickP x.kind 7 = 6
    · have b4 : (pickP x.kind 7 == 4) = false := by simp; omega
      have b5 : (pickP x.kind 7 == 5) = false := by simp; omega
      have b6 : (pickP x.kind 7 == 6) = true := by simp; omega
      have hk1' : Kept No w w1.drew := K1.out.drew
      have hpt := Lib.hid (mark_any (H.out.keptNo hk1') (pickP x.n (many ns)) (pickP x.m 3))
      have hz := K1.out.size
      have fin : Hid (∀ e w5, RetErr w1.drew F hb room (markP ns (pickP x.n (many ns)) (pickP x.m 3)) e w5 → RetStep w F hb room ns x (.returned (.int .i64 (markP ns (pickP x.n (many ns)) (pickP x.m 3)).2)) w5) := fun e w5 ⟨_, h2, h3⟩ =>
        ⟨markP ns (pickP x.n (many ns)) (pickP x.m 3), .inr (.inl ⟨h6, rfl⟩), rfl, h2.mono (fun b hb _ => .inl hb), (hk1'.all).trans h3 (fun _ _ h => h)⟩
      have hn2 : many ns ≤ 1000000 := by omega
      clear hk1' h45 h6
      go_wp2_with fail
      go_region_law (first | (go_simp; go_at_call 20; refine (pick_any _ _ _ (by assumption) (by omega) (by omega)).mono ?_; rintro e w3 ⟨rfl, rfl⟩) | (go_simp; go_at_call 55; refine hpt.out.mono ?_; intro e w5 hr5; have he := hr5.1; subst he; have FN := Lib.hid (fin.out _ _ hr5); clear hr5))
      all_goals
        go_wp2_with fail
        go_ret
        exact FN.out
    · have hkd : pickP x.kind 7 < 4 := by omega
      have b4 : (pickP x.kind 7 == 4) = false := by simp; omega
      have b5 : (pickP x.kind 7 == 5) = false := by simp; omega
      have b6 : (pickP x.kind 7 == 6) = false := by simp; omega
      clear h45 h6
      have hp4 := pickP_range x.k 4 (by decide)
      go_wp2_with fail
      have C0 : Hid (w1.cell? ⟨w.heap.size, 1, none⟩ = some (.int .i64 x.n) ∧ w1.cell? ⟨w.heap.size, 2, none⟩ = some (.int .i64 x.m) ∧ w1.cell? ⟨w.heap.size, 3, none⟩ = some (.int .i64 x.k)) := ⟨c1, c2, c3⟩
      clear c0 c1 c2 c3
      go_loopw [6, 7] (fun v i wr => ∃ (k : Nat) (l : List Int), k ≤ 3 ∧ i = .int .i64 k ∧ Hid (l.length = k ∧ (∀ a ∈ l, inR ns a = true) ∧ wr.ownsRow w1.heap.size 3 1 v l.length (ints l)) ∧ Hid (Kept No w1 wr)) (fun _ i _ => 3 - (intOf i).toNat)
      case atStart => exact ⟨0, [], by omega, rfl, ⟨rfl, by simp, World.ownsRow_nil _ _ _ _⟩, Kept.refl _ _⟩
      case round =>
        obtain ⟨k, l, hk3, rfl, HL, HK⟩ := hrel
        have c1 := (HK.out.cell (p := ⟨w.heap.size, 1, none⟩) hlt1 (fun h => h)).trans C0.out.1
        have c2 := (HK.out.cell (p := ⟨w.heap.size, 2, none⟩) hlt1 (fun h => h)).trans C0.out.2.1
        have c3 := (HK.out.cell (p := ⟨w.heap.size, 3, none⟩) hlt1 (fun h => h)).trans C0.out.2.2
        obtain ⟨A, c, hv⟩ := (own_reads HL.out.2.2 (F := fun _ => True) (fun _ _ => trivial)).slice
        rw [HL.out.1] at hv
        subst hv
        by_cases hgo : (k : Int) < pickP x.k 4 ∧ 0 < ns.length
        · obtain ⟨hg1, hg2⟩ := hgo
          go_wp2_with fail
          refine (pick_any x.k 4 _ x4 (by decide) (by decide)).mono ?_
          rintro e w3 ⟨rfl, rfl⟩
          go_wp2_with fail
          refine (used_any (H.out.keptNo (K1.out.thenNo HK.out))).mono ?_
          rintro e w3 ⟨rfl, rfl⟩
          go_wp2_with fail
          have hpr := pickP_range (wrap64 (x.m + wrap64 (↑k * wrap64 (x.k.tdiv 4)))) (many ns) hn0
          refine (pick_any _ (many ns) _ (i64_wrap _) hn0 (by omega)).mono ?_
          rintro e w3 ⟨rfl, rfl⟩
          generalize pickP (wrap64 (x.m + wrap64 (↑k * wrap64 (x.k.tdiv 4)))) (many ns) = y at *
          have hy : inR ns y = true := inR_iff.2 ⟨hpr.1, by have := hpr.2; unfold many at this; split at this <;> omega⟩
          obtain ⟨L1, L2, L3⟩ := HL.out
          rw [L1] at L3
          obtain ⟨v4, w4, happ, ho4, hg4, _, hs4⟩ := run_append_row (P := Try.prog) (ty := 22) Try.underlying22 info3 rfl (by decide) (L3.alloc (.cells #[.int .i64 y] 3)) (RowR.new wr 1 1 #[.int .i64 y] 3 rfl) (ints_one [y]) (by omega) (by omega) (Nat.le_trans HK.out.size (by simp))
          obtain ⟨g4, c4, rfl⟩ := hs4 (by omega)
          have HL4 : Hid ((l ++ [y]).length = k + 1 ∧ (∀ a ∈ l ++ [y], inR ns a = true) ∧ w4.ownsRow w1.heap.size 3 1 (.slice (some ⟨g4, 0, none⟩) (k + 1) c4) (l ++ [y]).length (ints (l ++ [y]))) := by
            refine ⟨by simp [L1], fun a ha => ?_, ?_⟩
            · rcases List.mem_append.1 ha with h | h
              · exact L2 a h
              · have : a = y := by simpa using h
                rw [this]; exact hy
            · rw [ints_append, List.length_append, L1]
              exact ho4
          have HK4 : Hid (Kept No w1 w4) := (HK.out.alloc _).grown hg4 (fun b hb hlt => by have := (L3.lt b hb).1; omega)
          clear L1 L2 L3 ho4 hg4 hs4 hpr hy
          go_wp2_with (at_builtin; refine wpList_append_run rfl (.tmp 52) (.tmp 63) 22 rfl rfl rfl happ ?_; clear happ)
          go_roundw
          case rel => exact ⟨k + 1, l ++ [y], by omega, by go_num, HL4, HK4⟩
          case measure => (simp [intOf]; try omega)
        · have tail : Hid (∀ W, Kept No wr W → True) := fun _ _ => trivial
          have hpn := pickP_range x.n 100 (by decide)
          obtain ⟨L1, L2, L3⟩ := HL.out
          have hr := own_reads L3 (F := fun _ => True) (fun _ _ => trivial)
          have hz := HK.out.size
          have hmk := Lib.hid (make_any (H.out.keptNo (K1.out.thenNo HK.out)) (pickP x.n 100) (.slice A k c) l hr hroom (HF.out.le (K1.out.thenNo HK.out).size))
          have fin : Hid (∀ e w5, RetMake wr F hb room (makeP room ns (pickP x.n 100) l) e w5 → RetStep w F hb room ns x (.returned (.int .i64 (makeP room ns (pickP x.n 100) l).2.2)) w5) := fun e w5 ⟨_, h2, h3⟩ =>
            ⟨((makeP room ns (pickP x.n 100) l).1, (makeP room ns (pickP x.n 100) l).2.2), .inr (.inr ⟨hkd, _, l, hpn.1, by omega, L2, rfl⟩), rfl,
              h2.mono (fun b hb _ => by
                rcases hb with hb | hb
                · exact .inl hb
                · exact .inr ⟨by have := (K1.out.thenNo HK.out).size; omega, hb.2⟩), ((K1.out.thenNo HK.out).all).trans h3 (fun _ _ h => h)⟩
          have hpr2 : k < pickP x.k 4 → ns.length = 0 := fun h => by
            by_cases h0 : ns.length = 0
            · exact h0
            · exact absurd ⟨h, by omega⟩ hgo
          clear hgo L1 L2 L3 hr
          by_cases hg1 : (k : Int) < pickP x.k 4
          · have h00 := hpr2 hg1
            have HN0 := Lib.hid h00
            have hn00 : ns.length ≤ 0 := by omega
            clear hpr2 h00
            go_wp2_with fail
            refine (pick_any x.k 4 _ x4 (by decide) (by decide)).mono ?_
            rintro e w3 ⟨rfl, rfl⟩
            go_wp2_with fail
            refine (used_any (H.out.keptNo (K1.out.thenNo HK.out))).mono ?_
            rintro e w3 ⟨rfl, rfl⟩
            rw [HN0.out]
            go_wp2_with fail
            refine (pick_any x.n 100 _ x2 (by decide) (by decide)).mono ?_
            rintro e w3 ⟨rfl, rfl⟩
            go_wp2_with fail
            refine hmk.out.mono ?_
            intro e w5 hr5
            have he := hr5.1
            subst he
            have FN := Lib.hid (fin.out _ _ hr5)
            clear hr5
            go_wp2_with fail
            go_ret
            exact FN.out
          · clear hpr2
            go_wp2_with fail
            refine (pick_any x.k 4 _ x4 (by decide) (by decide)).mono ?_
            rintro e w3 ⟨rfl, rfl⟩
            go_wp2_with fail
            refine (pick_any x.n 100 _ x2 (by decide) (by decide)).mono ?_
            rintro e w3 ⟨rfl, rfl⟩
            go_wp2_with fail
            refine hmk.out.mono ?_
            intro e w5 hr5
            have he := hr5.1
            subst he
            have FN := Lib.hid (fin.out _ _ hr5)
            clear hr5
            go_wp2_with fail
            go_ret
            exact FN.out
end Go.Proofs.Ytooalgnppnmeaaa
