/- Layer 12's laws: made, pick, some. -/
import Derived.Test.YtooalgnppnmeaaaAwake12
import Derived.Test.YtooalgnppnmeaaaRH6
import Derived.Test.YtooalgnppnmeaaaBoth
import Derived.Test.YtooalgnppnmeaaaS1
namespace Go.Proofs.Ytooalgnppnmeaaa
open Go.RowKit

theorem refillP_bad {room : Int} {ns l : List Nd} (h : ¬ Good room l) : ∃ err : Int, err ≠ 0 ∧ refillP room ns l = (ns, err) := by
  unfold refillP
  split
  · exact ⟨111, by decide, rfl⟩
  · rename_i h1
    split
    · exact ⟨114, by decide, rfl⟩
    · rename_i h2
      split
      · exact ⟨113, by decide, rfl⟩
      · rename_i h3
        exact absurd ⟨Classical.not_not.1 h2, Classical.not_not.1 h3, by omega⟩ h
/-- A heap of these nodes, and the document's; or none. -/
def RetMade (w : World) (l : List Nd) (e : Ending) (w' : World) : Prop :=
  (¬ Good 4000 l → e = .returned (.tuple #[.pointer none, .pointer none]) ∧ Kept No w w') ∧
  (Good 4000 l → ∃ hb rb F1 F2, e = .returned (.tuple #[.pointer (some ⟨hb, 0, none⟩), .pointer (some ⟨rb, 0, none⟩)]) ∧ Both w' F1 F2 hb rb 4000 l l ∧ (∀ k, F1 k → w.heap.size ≤ k) ∧ (∀ k, F2 k → w.heap.size ≤ k) ∧ Kept No w w')
set_option maxRecDepth 100000 in
set_option maxHeartbeats 2000000 in
theorem made_any {G : Nat → Prop} {v : Value} {l : List Nd} {w : World} (hl : NodesR w G v l) (hb : Bulk l) : Calls Try.prog 39 #[.int .i64 4000, v] w (RetMade w l) := by
  obtain ⟨A, c, rfl⟩ := hl.slice
  have HL := Lib.hid hl
  have HB := Lib.hid hb
  clear hl hb
  go_enter Try.func39, Try.ntmps39
  go_wp2_with fail
  refine (new_yes 4000 _ (by decide) (by decide)).mono ?_
  rintro e w1 ⟨rfl, hw⟩
  have h1 : HeapO w1 (fun k => k = w.heap.size) w.heap.size 4000 [] := hw ▸ heap_new w 4000
  have k1 : Kept No w w1 := hw ▸ (Kept.refl No w).alloc _
  have z1 : w1.heap.size = w.heap.size + 1 := by rw [← hw]; simp
  clear hw
  go_wp2_with fail
  refine (rnew_yes 4000 _ (by decide) (by decide)).mono ?_
  rintro e w2 ⟨rfl, hw⟩
  have h2 : RHeapO w2 (fun k => k = w1.heap.size) w1.heap.size 4000 [] := hw ▸ rheap_new w1 4000
  have k2 : Kept No w1 w2 := hw ▸ (Kept.refl No w1).alloc _
  have z2 : w2.heap.size = w1.heap.size + 1 := by rw [← hw]; simp
  clear hw
  generalize hN : w.heap.size = N at *
  have HN := Lib.hid hN
  have b2 : Both w2 (fun k => k = N) (fun k => k = w1.heap.size) N w1.heap.size 4000 [] [] := ⟨h1.keptNo k2, h2, fun k e1 e2 => by omega, fun k hk => by omega, fun k hk => by omega⟩
  rw [z1] at b2 ⊢
  have B2 := Lib.hid b2
  have K2 := Lib.hid (k1.thenNo k2)
  have HZ := Lib.hid z1
  have HZ2 := Lib.hid z2
  have HL2 := Lib.hid ((HL.out.mono (F' := fun k => k < N) (fun k _ hk => by omega)).keptNo K2.out)
  clear h1 h2 k1 k2 b2 hN z1 z2 HL
  go_wp2_with fail
  have hrf := refill_any B2.out.h HL2.out (by decide) (Nat.le_trans HB.out.1 (by decide)) (fun n hn => Nat.le_trans (HB.out.2 n hn) (by decide))
  by_cases hg : Good 4000 l
  · rw [refill_good hg] at hrf
    refine hrf.mono ?_
    clear hrf
    rintro e w3 ⟨rfl, h3, k3⟩
    dsimp only at h3 ⊢
    have B3 := Lib.hid (B2.out.stepH h3 k3)
    have HL3 := Lib.hid (HL2.out.kept k3 (fun k hk e => by omega))
    have K3 := Lib.hid k3
    clear h3 k3
    go_wp2_with fail
    have hrr := rrefill_any B3.out.r HL3.out (by decide) HB.out
    rw [refill_good hg] at hrr
    refine hrr.mono ?_
    clear hrr
    rintro e w4 ⟨rfl, h4, k4⟩
    dsimp only at h4 ⊢
    have B4 := Lib.hid (B3.out.stepR h4 k4)
    have hz3 := K3.out.size
    have hz := HZ.out
    have hz2 := HZ2.out
    have hfin : Hid (RetMade w l (.returned (.tuple #[.pointer (some ⟨N, 0, none⟩), .pointer (some ⟨N + 1, 0, none⟩)])) w4) :=
      ⟨fun h => absurd hg h, fun _ => ⟨N, N + 1, _, _, rfl, B4.out, fun k hk => by
        have := HN.out
        rcases hk with hk | hk <;> omega, fun k hk => by
        have := HN.out
        rcases hk with hk | hk <;> omega, (K2.out.trans K3.out (fun k hlt hk => by have := HN.out; omega)).trans k4 (fun k hlt hk => by have := HN.out; omega)⟩⟩
    clear h4 k4 hz3 hz hz2
    go_wp2_with fail
    go_ret2
    exact hfin.out
  · obtain ⟨err, hne, hre⟩ := refillP_bad (ns := []) hg
    rw [hre] at hrf
    refine hrf.mono ?_
    clear hrf
    rintro e w3 ⟨rfl, h3, k3⟩
    dsimp only at h3 ⊢
    have B3 := Lib.hid (B2.out.stepH h3 k3)
    have HL3 := Lib.hid (HL2.out.kept k3 (fun k hk e => by omega))
    have K3 := Lib.hid k3
    clear h3 k3
    go_wp2_with fail
    have hrr := rrefill_any B3.out.r HL3.out (by decide) HB.out
    rw [hre] at hrr
    refine hrr.mono ?_
    clear hrr
    rintro e w4 ⟨rfl, h4, k4⟩
    dsimp only
    have hz := HZ.out
    have hfin : Hid (RetMade w l (.returned (.tuple #[.pointer none, .pointer none])) w4) :=
      ⟨fun _ => ⟨rfl, (K2.out.trans K3.out (fun k hlt hk => by have := HN.out; omega)).trans k4 (fun k hlt hk => by have := HN.out; omega)⟩, fun h => absurd h hg⟩
    have hne2 : (err != 0) = true := by simpa using hne
    clear h4 k4 hz hre
    go_wp2_with fail
    go_ret2
    exact hfin.out

theorem pick12_any (c n : Int) (w : World) (hc : I64 c) (hn : 0 < n) (hn2 : n ≤ 1000000) : Calls Try.prog 50 #[.int .i64 c, .int .i64 n] w fun e w' => e = .returned (.int .i64 (pickP c n)) ∧ w = w' := by
  unfold I64 at hc
  obtain ⟨h1, h2⟩ := hc
  by_cases h0 : c < 0
  · have e : pickP c n = (-(c + 1)) % n := by unfold pickP; rw [if_pos h0]
    rw [e]
    have b1 : 0 ≤ -(c + 1) := by omega
    have b2 : -(c + 1) ≤ 9223372036854775807 := by omega
    have hne : (n == 0) = false := by simp; omega
    clear e
    go_enter Try.func50, Try.ntmps50
    go_wp2
    go_ret
    exact ⟨ret_int' (by rw [← Int.neg_tmod]; exact Int.tmod_eq_emod_of_nonneg b1), rfl⟩
  · have e : pickP c n = c % n := by unfold pickP; rw [if_neg h0]
    rw [e]
    have b1 : 0 ≤ c := by omega
    have hne : (n == 0) = false := by simp; omega
    clear e
    go_enter Try.func50, Try.ntmps50
    go_wp2
    go_ret
    exact ⟨ret_int' rfl, rfl⟩
/-- Addresses by raw numbers. -/
def someP (raw : List Int) (n : Nat) : List Int := if n = 0 then [] else raw.map fun c => pickP c n
def RetSome (w : World) (l : List Int) (e : Ending) (w' : World) : Prop := ∃ v, e = .returned v ∧ w'.ownsRow w.heap.size 3 1 v l.length (ints l) ∧ Kept No w w'
set_option maxRecDepth 100000 in
set_option maxHeartbeats 2000000 in
theorem some_any {G : Nat → Prop} {v : Value} {raw : List Int} {n : Nat} {w : World} (hv : RowR w 1 G v raw.length (ints raw)) (hI : ∀ x ∈ raw, I64 x) (hsz : raw.length ≤ 2000000) (hn : n ≤ 4000) :
    Calls Try.prog 48 #[v, .int .i64 (n : Int)] w (RetSome w (someP raw n)) := by
  obtain ⟨Av, cv, rfl⟩ := hv.slice
  have HV := Lib.hid hv
  have HI := Lib.hid hI
  clear hv hI
  by_cases h0 : n = 0
  · subst h0
    have hfin : Hid (RetSome w (someP raw 0) (.returned (.slice none 0 0)) w) := ⟨_, rfl, World.ownsRow_nil _ _ _ _, Kept.refl _ _⟩
    by_cases hr : raw.length = 0
    · rw [hr]
      go_enter Try.func48, Try.ntmps48
      go_wp2_with fail
      go_loopw [5, 6] (fun t5 t6 wr => t5 = .slice none 0 0 ∧ t6 = .int .i64 0 ∧ wr = w) (fun _ _ _ => 0)
      case atStart => exact ⟨rfl, rfl, rfl⟩
      case round =>
        obtain ⟨rfl, rfl, rfl⟩ := hrel
        go_wp2_with fail
        go_ret
        exact hfin.out
    · have hr2 : 0 < raw.length := by omega
      clear hr
      go_enter Try.func48, Try.ntmps48
      go_wp2_with fail
      go_loopw [5, 6] (fun t5 t6 wr => t5 = .slice none 0 0 ∧ t6 = .int .i64 0 ∧ wr = w) (fun _ _ _ => 0)
      case atStart => exact ⟨rfl, rfl, rfl⟩
      case round =>
        obtain ⟨rfl, rfl, rfl⟩ := hrel
        go_wp2_with fail
        go_ret
        exact hfin.out
  · have hn0 : 0 < n := by omega
    have hsp : Hid (someP raw n = raw.map fun c => pickP c n) := by show _ = _; unfold someP; rw [if_neg h0]
    clear h0
    go_enter Try.func48, Try.ntmps48
    go_wp2_with fail
    go_loopw [5, 6] (fun t5 t6 wr => ∃ k : Nat, k ≤ raw.length ∧ t6 = .int .i64 k ∧ Hid (wr.ownsRow w.heap.size 3 1 t5 k (ints ((raw.take k).map fun c => pickP c n))) ∧ Hid (Kept No w wr)) (fun _ t6 _ => raw.length - (intOf t6).toNat)
    case atStart => exact ⟨0, by omega, rfl, World.ownsRow_nil _ _ _ _, Kept.refl _ _⟩
    case round =>
      obtain ⟨k, hk, rfl, HO, HK⟩ := hrel
      obtain ⟨A2, c2, rfl⟩ := (own_reads HO.out (F := fun _ => True) (fun _ _ => trivial)).slice
      have hlk : ((raw.take k).map fun c => pickP c n).length = k := by rw [List.length_map, List.length_take]; omega
      by_cases hlt : k < raw.length
      · have hx : raw[k]? = some raw[k] := List.getElem?_eq_getElem hlt
        have htk : raw.take (k + 1) = raw.take k ++ [raw[k]] := by rw [List.take_add_one, hx]; rfl
        obtain ⟨_, A', cv', he, hcc, hrd⟩ := HV.out.keptNo HK.out
        injection he with hA' _ hc
        obtain ⟨bv, ov, hAv, _, _, hcell⟩ := hrd (by omega)
        have hcl := hcell k (.int .i64 raw[k]) (by rw [ints_get, hx]; rfl)
        subst hA' hc hAv
        have hxi := HI.out _ (List.mem_of_getElem? hx)
        generalize raw[k] = x at *
        clear hcell hrd hx
        have HOl := HO.out
        rw [← hlk] at HOl
        obtain ⟨g4, c4, w4, happ, ho4, k4, _⟩ := int_push (v := .slice A2 k c2) (l := (raw.take k).map fun c => pickP c n) (by rw [hlk]; exact HO.out) HK.out.size (pickP x n) (by rw [hlk]; omega)
        rw [hlk] at happ
        have HO4 : Hid (w4.ownsRow w.heap.size 3 1 (.slice (some ⟨g4, 0, none⟩) (k + 1) c4) (k + 1) (ints ((raw.take (k + 1)).map fun c => pickP c n))) := by
          show World.ownsRow _ _ _ _ _ _ _
          rw [htk, List.map_append]
          rw [List.length_append, hlk] at ho4
          exact ho4
        have HK4 := Lib.hid (HK.out.trans k4 (fun i hlt hi => by have := (HO.out.lt i hi).1; omega))
        clear ho4 k4 htk hlk HOl
        go_wp2_with fail
        refine (pick12_any x n _ hxi (by omega) (by omega)).mono ?_
        rintro e w6 ⟨rfl, rfl⟩
        go_wp2_with (at_builtin; refine wpList_append_run rfl (.tmp 17) (.tmp 24) 22 rfl rfl rfl happ ?_; clear happ)
        go_roundw
        case rel => exact ⟨k + 1, by omega, by go_num, HO4, HK4⟩
        case measure => (simp [intOf]; try omega)
      · have hke : k = raw.length := by omega
        have hfin : Hid (RetSome w (someP raw n) (.returned (.slice A2 k c2)) wr) := by
          have := HO.out
          rw [hke, List.take_length] at this
          refine ⟨_, rfl, ?_, HK.out⟩
          rw [hsp.out, List.length_map, hke]
          exact this
        clear hlk
        subst hke
        go_wp2_with fail
        go_ret
        exact hfin.out
end Go.Proofs.Ytooalgnppnmeaaa
