/- HeapRefills: the walk. -/
import Derived.Test.YtooalgnppnmeaaaTwo
namespace Go.Proofs.Ytooalgnppnmeaaa
open Go.RowKit

set_option maxRecDepth 100000 in
set_option maxHeartbeats 4000000 in
theorem heapRefills_any (room : Int) (v : Value) (xs : List Opr) (nv : Value) (l : List Nd) (w : World) (hx : OpsR w (fun _ => True) v xs) (hs : ∀ x ∈ xs, OprS x) (hsz : xs.length ≤ 1048576) (hn : NodesR w (fun _ => True) nv l) (hb : Bulk l) :
    Calls Try.prog 10 #[.int .i64 room, v, nv] w (RetYes w) := by
  obtain ⟨A, c, rfl⟩ := hx.slice
  obtain ⟨An, cn, rfl⟩ := hn.slice
  have HX := Lib.hid (hx.mono (fun _ _ h => h) : OpsR w (fun k => k < w.heap.size) _ xs)
  have HN := Lib.hid (hn.mono (fun _ _ h => h) : NodesR w (fun k => k < w.heap.size) _ l)
  have HS := Lib.hid hs
  have HB := Lib.hid hb
  clear hx hn hs hb
  go_enter Try.func10, Try.ntmps10
  go_wp2_with fail
  refine (awake11_any _).mono ?_
  rintro e w1 ⟨rfl, k1⟩
  have K1 := Lib.hid k1
  clear k1
  by_cases hr : 1 ≤ room ∧ room ≤ 4000
  · obtain ⟨hr1, hr2⟩ := hr
    have hz1 := K1.out.size
    have P0 := Lib.hid (Pair.new w1 room hr1)
    go_wp2_with fail
    refine (new_yes room _ hr1 hr2).mono ?_
    rintro e w2 ⟨rfl, rfl⟩
    go_wp2_with fail
    refine (rnew_yes room _ hr1 hr2).mono ?_
    rintro e w3 ⟨rfl, hw3⟩
    rw [hw3] at P0
    have K3 : Hid (Kept No w1 w3) := hw3 ▸ ((Kept.refl No w1).alloc _).alloc _
    simp only [World.size_alloc]
    clear hw3
    have hz3 := K3.out.size
    have KK := Lib.hid (K1.out.thenNo K3.out)
    have HX3 := Lib.hid ((HX.out.keptNo KK.out).mono (fun k (h : k < w.heap.size) _ => (show k < w1.heap.size by omega)))
    have HN3 := Lib.hid ((HN.out.keptNo KK.out).mono (fun k (h : k < w.heap.size) _ => (show k < w1.heap.size by omega)))
    generalize w1.heap.size = N at *
    clear HX HN K3 K1
    go_wp2_with fail
    go_loopw [12] (fun i wr => ∃ k : Nat, k ≤ xs.length ∧ i = .int .i64 k ∧ Hid (Pair N wr N (N + 1) room) ∧ Hid (Kept (fun k => N ≤ k) w3 wr)) (fun i _ => xs.length - (intOf i).toNat)
    case atStart => exact ⟨0, by omega, rfl, P0, Kept.refl _ _⟩
    case round =>
      obtain ⟨k, hk, rfl, HP, HK⟩ := hrel
      have hzr := HK.out.size
      by_cases hlt : k < xs.length
      · have hx : xs[k]? = some xs[k] := List.getElem?_eq_getElem hlt
        have hok := Lib.hid (HS.out _ (List.mem_of_getElem? hx))
        obtain ⟨b, o, c', lv, nv, he, _, _, c0, c1, c2, c3, c4, c5, hop⟩ := HX3.out.at_ hx
        injection he with he _ hc
        subst he hc
        have hbN : b < N := by assumption
        have hbz : b < w3.heap.size := by assumption
        have hcell := fun o' => HK.out.cell (p := ⟨b, o', none⟩) hbz (by show ¬ N ≤ b; omega)
        rw [← hcell] at c0 c1 c2 c3 c4 c5
        have HO := Lib.hid (⟨hop.l.kept HK.out (fun k h hn => by omega), hop.nodes.kept HK.out (fun k h hn => by omega)⟩ : OprR wr (fun k => k < N) xs[k] lv nv)
        have hdo := Lib.hid (HP.out.do_ hr2 xs[k] lv nv HO.out hok.out (by omega))
        clear hx hcell hop hok HO
        generalize xs[k] = x at *
        unfold opVal at hdo
        go_wp2_with fail
        refine hdo.out.mono ?_
        rintro e w5 ⟨rfl, h5, k5⟩
        have H5 := Lib.hid h5
        have K5 := Lib.hid (HK.out.trans k5 (fun _ _ h => h))
        clear h5 k5 hdo HP HK c0 c1 c2 c3 c4 c5
        go_wp2_with fail
        go_roundw
        case rel => exact ⟨k + 1, by omega, by go_num, H5, K5⟩
        case measure => (simp [intOf]; try omega)
      · have d1 := Lib.hid (HP.out.do_ hr2 ⟨9, 0, 0, false, [], l⟩ (.slice none 0 0) (.slice An l.length cn) ⟨RowR.nil wr 1 _, HN3.out.kept HK.out (fun k h hn => by omega)⟩ ⟨by simp, HB.out⟩ (by omega))
        unfold opVal at d1
        dsimp only at d1
        go_wp2_with fail
        refine d1.out.mono ?_
        rintro e w5 ⟨rfl, h5, k5⟩
        have hz5 := k5.size
        have K5 := Lib.hid (HK.out.trans k5 (fun _ _ h => h))
        have d2 := Lib.hid (h5.do_ hr2 ⟨7, 0, 0, false, [], []⟩ (.slice none 0 0) (.slice none 0 0) (OprR.bare w5 _ 7) (OprS.bare 7) (by omega))
        unfold opVal at d2
        dsimp only at d2
        clear h5 k5 d1 HP HK
        go_wp2_with fail
        refine d2.out.mono ?_
        rintro e w6 ⟨rfl, h6, k6⟩
        have hz6 := k6.size
        have K6 := Lib.hid (K5.out.trans k6 (fun _ _ h => h))
        have d3 := Lib.hid (h6.do_ hr2 ⟨8, 0, 0, false, [], []⟩ (.slice none 0 0) (.slice none 0 0) (OprR.bare w6 _ 8) (OprS.bare 8) (by omega))
        unfold opVal at d3
        dsimp only at d3
        clear h6 k6 d2 K5
        go_wp2_with fail
        refine d3.out.mono ?_
        rintro e w7 ⟨rfl, h7, k7⟩
        have K7 := Lib.hid (K6.out.trans k7 (fun _ _ h => h))
        clear h7 k7 d3 K6
        have fin := Lib.hid (KK.out.trans K7.out (fun k hk hn => by omega) : Kept No w w7)
        go_wp2_with fail
        go_ret
        exact ⟨rfl, fin.out⟩
  · go_wp2_with fail
    refine (new_no room _ hr).mono ?_
    rintro e w2 ⟨rfl, rfl⟩
    go_wp2_with fail
    refine (rnew_no room _ hr).mono ?_
    rintro e w2 ⟨rfl, rfl⟩
    go_wp2_with fail
    go_ret
    exact ⟨rfl, K1.out⟩
end Go.Proofs.Ytooalgnppnmeaaa
