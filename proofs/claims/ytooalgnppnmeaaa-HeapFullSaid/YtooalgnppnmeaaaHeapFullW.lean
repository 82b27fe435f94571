/- HeapFull: the walk. -/
import Derived.Test.YtooalgnppnmeaaaL11a
import Derived.LoopTactic
import Derived.Deep.DeepCutAuto
import Derived.Deep.CutBlock
namespace Go.Proofs.Ytooalgnppnmeaaa
open Go.RowKit

/-- What stands after i calls of Make. -/
def FullInv (n i : Nat) (ns : List Nd) : Prop :=
  ns.length = min i n ∧ ∀ (j : Nat) (x : Nd), ns[j]? = some x → x.pts = false ∧ x.args.length ≤ 6 ∧ (0 < j → ∃ y : Int, x.args = [(j : Int) - 1, y])

theorem FullInv.step {n i : Nat} {ns : List Nd} (h : FullInv n i ns) (hi : i < n) (sym y : Int) (hs : 0 ≤ sym) (l : List Int) (hl : l = if 0 < i then [(i : Int) - 1, y] else []) (hy : 0 < i → 0 ≤ y ∧ y < i) (room : Int) (hr : room = n) :
    makeP room ns sym l = (ns ++ [⟨sym, l, 0, false, 0⟩], (i : Int), 0) ∧ FullInv n (i + 1) (ns ++ [⟨sym, l, 0, false, 0⟩]) := by
  obtain ⟨hlen, hall⟩ := h
  have hlen' : ns.length = i := by omega
  have h6 : l.length ≤ 6 := by subst hl; split <;> simp
  have hin : l.all (inR ns) = true := by
    subst hl
    split
    · rename_i h0
      have := hy h0
      simp [inR]; omega
    · rfl
  refine ⟨?_, by simp; omega, ?_⟩
  · unfold makeP; rw [if_neg (by omega), if_neg (by simp [hin]), if_neg (by omega), hlen']
  · intro j x hj
    rw [List.getElem?_append] at hj
    split at hj
    · exact hall j x hj
    · rename_i hjl
      have hj2 := (List.getElem?_eq_some_iff.1 hj).1
      have hj0 : j = i := by simp at hj2; omega
      have hx : x = ⟨sym, l, 0, false, 0⟩ := by
        have := List.mem_of_getElem? hj
        simpa using this
      subst hx
      refine ⟨rfl, h6, fun h0 => ⟨y, ?_⟩⟩
      show l = _
      rw [hl, if_pos (by omega), hj0]
theorem FullInv.full {n i : Nat} {ns : List Nd} (h : FullInv n i ns) (hi : n ≤ i) (sym : Int) (hs : 0 ≤ sym) (room : Int) (hr : room = n) :
    makeP room ns sym [] = (ns, 0, 111) ∧ FullInv n (i + 1) ns := by
  obtain ⟨hlen, hall⟩ := h
  exact ⟨by unfold makeP; rw [if_neg (by simp; omega), if_neg (by simp), if_pos (by omega)], by omega, hall⟩

set_option maxRecDepth 100000 in
set_option maxHeartbeats 2000000 in
theorem heapFull_any (room : Int) (v : Value) (l : List Int) (w : World) (hroom : I64 room) (hl : RowR w 1 (fun _ => True) v l.length (ints l)) (hI : ∀ x ∈ l, I64 x) (hsz : l.length ≤ 9223372036854775807) :
    Calls Try.prog 3 #[.int .i64 room, v] w (RetYes w) := by
  obtain ⟨A, c, rfl⟩ := hl.slice
  have HL := Lib.hid hl
  have HI := Lib.hid hI
  clear hl hI
  have hp := pickP_range room 60 (by decide)
  obtain ⟨n, hn⟩ : ∃ n : Nat, 1 + pickP room 60 = (n : Int) := ⟨(1 + pickP room 60).toNat, by omega⟩
  have hn1 : 1 ≤ n := by omega
  have hn2 : n ≤ 60 := by omega
  have HN := Lib.hid hn
  clear hn hp
  go_enter Try.func3, Try.ntmps3
  go_wp2_with fail
  refine (awake11_any _).mono ?_
  rintro e w1 ⟨rfl, k1⟩
  go_wp2_with fail
  refine (pick_any room 60 _ hroom (by decide) (by decide)).mono ?_
  rintro e w2 ⟨rfl, hw⟩
  obtain rfl := hw
  have hb : IntKind.i64.wrap (1 + pickP room 60) = (n : Int) := by
    rw [HN.out]; exact IntWalk.i64_in _ (by omega)
  go_wp2_with fail
  refine (new_yes n _ (by omega) (by omega)).mono ?_
  rintro e w3 ⟨rfl, hw⟩
  have h3 : HeapN w.heap.size w3 w1.heap.size n [] := hw ▸ HeapN.of (heap_new w1 n) (fun k hk _ => by have := k1.size; omega)
  have k3 : Kept (Fr w.heap.size) w w3 := hw ▸ (k1.all).alloc _
  clear hw hb
  generalize w1.heap.size = hb at *
  have H3 := Lib.hid h3
  have K3 := Lib.hid k3
  clear h3 k1 k3
  go_wp2_with fail
  go_loopw [9] (fun i wr => ∃ (k : Nat) (ns : List Nd), k ≤ n + 3 ∧ i = .int .i64 k ∧ Hid (FullInv n k ns) ∧ Hid (HeapN w.heap.size wr hb n ns) ∧ Hid (Kept (Fr w.heap.size) w wr)) (fun i _ => (n + 3) - (intOf i).toNat)
  case atStart => exact ⟨0, [], by omega, rfl, ⟨by simp, fun j x h => by simp at h⟩, H3, K3⟩
  case round =>
    obtain ⟨k, ns, hk, rfl, HV, HH, HK⟩ := hrel
    by_cases hlt : k < n + 3
    · go_upto_if 44 with fail
      go_cut [10] (fun s wx => ∃ x : Int, s = .int .i64 x ∧ 0 ≤ x ∧ x ≤ 999 ∧ wx = wr)
      case first =>
        by_cases hx : k < l.length
        · obtain ⟨_, A', c', he, _, hrd⟩ := HL.out
          obtain ⟨b, o, rfl, _, hbl, hcell⟩ := hrd (by omega)
          injection he with he _ hc
          subst he hc
          have hg : l[k]? = some l[k] := List.getElem?_eq_getElem hx
          have hcx := hcell k (.int .i64 l[k]) (by rw [ints_get, hg]; rfl)
          have hcw := (HK.out.cell (p := ⟨b, o + k, none⟩) hbl (fun hf => by unfold Fr at hf; dsimp only at hf; omega)).trans hcx
          have hi := HI.out _ (List.mem_of_getElem? hg)
          clear hcx hcell hrd hg
          generalize l[k] = x at *
          have hpr := pickP_range x 1000 (by decide)
          go_wp2_with fail
          refine (pick_any x 1000 _ hi (by decide) (by decide)).mono ?_
          rintro e w4 ⟨rfl, rfl⟩
          go_wp2_with fail
          go_meet
          exact ⟨_, rfl, hpr.1, by omega, rfl⟩
        · go_wp2_with fail
          go_meet
          exact ⟨1, rfl, by omega, by omega, rfl⟩
      case rest =>
        obtain ⟨s, rfl, hs0, hs1, rfl⟩ := hcut
        by_cases hmid : 0 < k ∧ k < n
        · obtain ⟨hk0, hkn⟩ := hmid
          have hpr := pickP_range s k (by omega)
          go_wp2_with fail
          refine (pick_any s k _ ⟨by omega, by omega⟩ (by omega) (by omega)).mono ?_
          rintro e w4 ⟨rfl, rfl⟩
          generalize pickP s k = y at *
          obtain ⟨hm, hv⟩ := HV.out.step hkn s y hs0 [(k : Int) - 1, y] (by rw [if_pos hk0]) (fun _ => hpr) n rfl
          have HM := Lib.hid hm
          have HV2 := Lib.hid hv
          clear hm hv
          go_wp2_with fail
          refine (makeN (HH.out.keptNo ((Kept.refl No _).alloc _)) s _ [(k : Int) - 1, y] (RowR.new _ 1 2 #[.int .i64 ((k : Int) - 1), .int .i64 y] 3 rfl) (by omega) HM.out).mono ?_
          rintro e w5 ⟨rfl, h5, k5⟩
          dsimp only at h5 ⊢
          have H5 := Lib.hid h5
          have K5 := Lib.hid ((HK.out.alloc _).trans k5 (fun _ _ h => h))
          clear h5 k5
          go_wp2_with fail
          go_roundw
          case rel => exact ⟨k + 1, _, by omega, by go_num, HV2, H5, K5⟩
          case measure => (simp [intOf]; try omega)
        · by_cases hkn : k < n
          · have hk0 : k = 0 := by omega
            obtain ⟨hm, hv⟩ := HV.out.step hkn s 0 hs0 [] (by rw [if_neg (by omega)]) (fun h => absurd h (by omega)) n rfl
            have HM := Lib.hid hm
            have HV2 := Lib.hid hv
            clear hm hv hmid
            subst hk0
            go_wp2_with fail
            refine (makeN HH.out s _ [] (RowR.nil _ 1 No) (by omega) HM.out).mono ?_
            rintro e w5 ⟨rfl, h5, k5⟩
            dsimp only at h5 ⊢
            have H5 := Lib.hid h5
            have K5 := Lib.hid (HK.out.trans k5 (fun _ _ h => h))
            clear h5 k5
            go_wp2_with fail
            go_roundw
            case rel => exact ⟨0 + 1, _, by omega, by go_num, HV2, H5, K5⟩
            case measure => (simp [intOf]; try omega)
          · obtain ⟨hm, hv⟩ := HV.out.full (by omega) s hs0 n rfl
            have HM := Lib.hid hm
            have HV2 := Lib.hid hv
            have hk0 : 0 < k := by omega
            clear hm hv hmid
            go_wp2_with fail
            refine (makeN HH.out s _ [] (RowR.nil _ 1 No) (by omega) HM.out).mono ?_
            rintro e w5 ⟨rfl, h5, k5⟩
            dsimp only at h5 ⊢
            have H5 := Lib.hid h5
            have K5 := Lib.hid (HK.out.trans k5 (fun _ _ h => h))
            clear h5 k5
            go_wp2_with fail
            go_roundw
            case rel => exact ⟨k + 1, _, by omega, by go_num, HV2, H5, K5⟩
            case measure => (simp [intOf]; try omega)
    · have hkk : k = n + 3 := by omega
      obtain ⟨hlen, hall⟩ := HV.out
      have hl2 : ns.length = n := by omega
      obtain ⟨x, hx⟩ : ∃ x, ns[n - 1]? = some x := ⟨_, List.getElem?_eq_getElem (by omega)⟩
      obtain ⟨x1, x2, x3⟩ := hall (n - 1) x hx
      have hx' : ndAt ns ((n : Int) - 1) = some x := by
        unfold ndAt; rw [if_pos (by omega), show ((n : Int) - 1).toNat = n - 1 by omega]; exact hx
      have HX := Lib.hid hx'
      have HL2 := Lib.hid hl2
      have HP := Lib.hid x1
      have H3' := Lib.hid x3
      clear hx hx' hall hlen hkk hl2 x1 x3
      go_wp2_with fail
      refine (at_yes HH.out.1 _ x HX.out (by omega)).mono ?_
      rintro e w5 ⟨a, rfl, ho, k5⟩
      dsimp only [ndVal]
      rw [HP.out]
      obtain ⟨A2, c2, rfl⟩ := (own_reads ho (F := fun _ => True) (fun _ _ => trivial)).slice
      have H5 := Lib.hid (HH.out.keptNo k5)
      have K5 := Lib.hid (HK.out.thenNo k5)
      have hs5 : wr.heap.size ≤ w5.heap.size := k5.size
      have hr := own_reads ho (F := fun k => k < w5.heap.size) (fun k hk => (ho.lt k hk).2)
      have HR := Lib.hid hr
      have hx2 : 2 ≤ n → ∃ (y : Int), x.args = [(n : Int) - 2, y] := by
        intro h2
        obtain ⟨y, hy⟩ := H3'.out (by omega)
        refine ⟨y, ?_⟩
        rw [hy, show ((n - 1 : Nat) : Int) - 1 = (n : Int) - 2 by omega]
      have HX2 := Lib.hid hx2
      clear k5 ho hr H3 K3 HH HK hx2
      go_wp2_with fail
      refine (used_any (H5.out.keptNo ((Kept.refl No w5).alloc _)).1).mono ?_
      rintro e w6 ⟨rfl, hw⟩
      rw [HL2.out]
      have H6 := Lib.hid (hw ▸ H5.out.keptNo ((Kept.refl No w5).alloc _) : HeapN w.heap.size w6 hb n ns)
      have K6 := Lib.hid (hw ▸ K5.out.alloc _ : Kept (Fr w.heap.size) w w6)
      have g6 : w6.heap[w5.heap.size]? = _ := hw ▸ heap_alloc_new w5 _
      have k6 : Kept No w5 w6 := hw ▸ (Kept.refl No w5).alloc _
      obtain ⟨⟨p0, p1, p2, p3, p4⟩, _⟩ := cells5 g6
      have HR6 := Lib.hid (HR.out.keptNo k6)
      clear hw g6 k6
      have fin : Hid (RetYes w (.returned (.bool true)) w6) := ⟨rfl, K6.out.toNo⟩
      by_cases hn1' : n = 1
      · subst hn1'
        go_wp2_with fail
        refine (room_any H6.out.1).mono ?_
        rintro e w7 ⟨rfl, rfl⟩
        go_wp2_with fail
        go_ret
        exact fin.out
      · have hne : ((n : Int) == 1) = false := by simp; omega
        obtain ⟨y, hy⟩ := HX2.out (by omega)
        have hr := HR6.out
        rw [hy] at hr p1
        obtain ⟨_, A', c', he, _, hrd⟩ := hr
        obtain ⟨b, o, rfl, _, hbl, hcell⟩ := hrd (by simp)
        injection he with he _ hc
        subst he hc
        have hc0 : w6.cell? ⟨b, o, none⟩ = some (.int .i64 ((n : Int) - 2)) := hcell 0 _ (by simp [ints])
        clear hcell hrd hy
        simp only [List.length_cons, List.length_nil] at p1
        have b1 : (0 : Int) ≤ (n : Int) - 2 := by omega
        have b2 : (n : Int) - 2 ≤ 60 := by omega
        go_wp2_with fail
        refine (room_any H6.out.1).mono ?_
        rintro e w7 ⟨rfl, rfl⟩
        go_wp2_with fail
        go_ret
        exact fin.out
end Go.Proofs.Ytooalgnppnmeaaa
