/- HeapPlays: the walk. -/
import Derived.Test.YtooalgnppnmeaaaTwo
namespace Go.Proofs.Ytooalgnppnmeaaa
open Go.RowKit

set_option maxRecDepth 100000 in
set_option maxHeartbeats 4000000 in
theorem heapPlays_yy (room other : Int) (v : Value) (xs : List Opr) (w : World) (hx : OpsR w (fun _ => True) v xs) (hs : ∀ x ∈ xs, OprS x) (hsz : xs.length ≤ 1048576) (hr1 : 1 ≤ room) (hr2 : room ≤ 4000) (ho1 : 1 ≤ other) (ho2 : other ≤ 4000) :
    Calls Try.prog 9 #[.int .i64 room, .int .i64 other, v] w (RetYes w) := by
  obtain ⟨A, c, rfl⟩ := hx.slice
  have HX := Lib.hid (hx.mono (fun _ _ h => h) : OpsR w (fun k => k < w.heap.size) _ xs)
  have HS := Lib.hid hs
  clear hx hs
  go_enter Try.func9, Try.ntmps9
  go_wp2_with fail
  refine (awake11_any _).mono ?_
  rintro e w1 ⟨rfl, k1⟩
  have K1 := Lib.hid k1
  clear k1
  have hz1 := K1.out.size
  have P0 := Lib.hid (Two.new w1 room other hr1 ho1)
  go_wp2_with fail
  refine (new_yes room _ hr1 hr2).mono ?_
  rintro e w2 ⟨rfl, rfl⟩
  go_wp2_with fail
  refine (new_yes other _ ho1 ho2).mono ?_
  rintro e w2 ⟨rfl, rfl⟩
  go_wp2_with fail
  refine (rnew_yes room _ hr1 hr2).mono ?_
  rintro e w2 ⟨rfl, rfl⟩
  go_wp2_with fail
  refine (rnew_yes other _ ho1 ho2).mono ?_
  rintro e w2 ⟨rfl, rfl⟩
  have K3 : Hid (Kept No w1 _) := (((((Kept.refl No w1).alloc (.cells #[.int .i64 room, .slice none 0 0] 91)).alloc (.cells #[.int .i64 other, .slice none 0 0] 91)).alloc (.cells #[.int .i64 room, .slice none 0 0] 75)).alloc (.cells #[.int .i64 other, .slice none 0 0] 75))
  simp only [World.size_alloc, Nat.add_assoc] at P0 K3 ⊢
  generalize hw3 : ((((w1.alloc (.cells #[.int .i64 room, .slice none 0 0] 91)).alloc (.cells #[.int .i64 other, .slice none 0 0] 91)).alloc (.cells #[.int .i64 room, .slice none 0 0] 75)).alloc (.cells #[.int .i64 other, .slice none 0 0] 75)) = w3 at P0 K3 ⊢
  clear hw3
  have hz3 := K3.out.size
  have KK := Lib.hid (K1.out.thenNo K3.out)
  have HX3 := Lib.hid ((HX.out.keptNo KK.out).mono (fun k (h : k < w.heap.size) _ => (show k < w1.heap.size by omega)))
  generalize w1.heap.size = N at *
  clear HX K3 K1
  go_wp2_with fail
  go_loopw [16] (fun i wr => ∃ k : Nat, k ≤ xs.length ∧ i = .int .i64 k ∧ Hid (Two N wr N (N + 2) room (N + 1) (N + 3) other) ∧ Hid (Kept (fun k => N ≤ k) w3 wr)) (fun i _ => xs.length - (intOf i).toNat)
  case atStart => exact ⟨0, by omega, rfl, P0, Kept.refl _ _⟩
  case round =>
    obtain ⟨k, hk, rfl, HP, HK⟩ := hrel
    have hzr := HK.out.size
    by_cases hlt : k < xs.length
    · have hx : xs[k]? = some xs[k] := List.getElem?_eq_getElem hlt
      have hok := Lib.hid (HS.out _ (List.mem_of_getElem? hx))
      obtain ⟨b, o, c', lv, nv, he, _, _, c0, c1, c2, c3, c4, c5, hop⟩ := HX3.out.at_ hx
      injection he with he _ hc
      subst he hc
      have hbN : b < N := by assumption
      have hbz : b < w3.heap.size := by first | assumption | omega
      have hcell := fun o' => HK.out.cell (p := ⟨b, o', none⟩) hbz (by show ¬ N ≤ b; omega)
      rw [← hcell] at c0 c1 c2 c3 c4 c5
      have HO := Lib.hid (⟨hop.l.kept HK.out (fun k h hn => by omega), hop.nodes.kept HK.out (fun k h hn => by omega)⟩ : OprR wr (fun k => k < N) xs[k] lv nv)
      clear hx hcell hop
      generalize xs[k] = x at *
      rcases Bool.eq_false_or_eq_true x.two with htwo | htwo
      · have hdo := Lib.hid (HP.out.do2 ho2 x lv nv HO.out hok.out (by omega))
        unfold opVal at hdo
        rw [htwo] at hdo c3
        clear HO hok
        go_wp2_with fail
        refine hdo.out.mono ?_
        rintro e w5 ⟨rfl, h5, k5⟩
        have H5 := Lib.hid h5
        have K5 := Lib.hid (HK.out.trans k5 (fun _ _ h => h))
        clear h5 k5 hdo HP HK c0 c1 c2 c3 c4 c5
        go_wp2_with fail
        go_roundw
        case rel => exact ⟨_, _, _, _, _, _, _, _, _, _, _, _, _, _, _, _, _, _, _, _, _, _, _, _, _, _, _, _, _, _, _, _, _, _, _, ⟨k + 1, by omega, by go_num, H5, K5⟩, rfl⟩
        case measure => (simp [intOf]; try omega)
      · have hdo := Lib.hid (HP.out.do1 hr2 x lv nv HO.out hok.out (by omega))
        unfold opVal at hdo
        rw [htwo] at hdo c3
        clear HO hok
        go_wp2_with fail
        refine hdo.out.mono ?_
        rintro e w5 ⟨rfl, h5, k5⟩
        have H5 := Lib.hid h5
        have K5 := Lib.hid (HK.out.trans k5 (fun _ _ h => h))
        clear h5 k5 hdo HP HK c0 c1 c2 c3 c4 c5
        go_wp2_with fail
        go_roundw
        case rel => exact ⟨_, _, _, _, _, _, _, _, _, _, _, _, _, _, _, _, _, _, _, _, _, _, _, _, _, _, _, _, _, _, _, _, _, _, _, ⟨k + 1, by omega, by go_num, H5, K5⟩, rfl⟩
        case measure => (simp [intOf]; try omega)
    · have K4 := HK
      have d5 := Lib.hid (HP.out.do1 hr2 ⟨7, 0, 0, false, [], []⟩ (.slice none 0 0) (.slice none 0 0) (OprR.bare wr _ 7) (OprS.bare 7) (by omega))
      unfold opVal at d5
      dsimp only at d5
      go_wp2_with fail
      refine d5.out.mono ?_
      rintro e w5 ⟨rfl, h5, k5⟩
      have hz5 := k5.size
      have K5 := Lib.hid (K4.out.trans k5 (fun _ _ h => h))
      clear k5
      have d6 := Lib.hid (h5.do2 ho2 ⟨7, 0, 0, false, [], []⟩ (.slice none 0 0) (.slice none 0 0) (OprR.bare w5 _ 7) (OprS.bare 7) (by omega))
      unfold opVal at d6
      dsimp only at d6
      go_wp2_with fail
      refine d6.out.mono ?_
      rintro e w6 ⟨rfl, h6, k6⟩
      have hz6 := k6.size
      have K6 := Lib.hid (K5.out.trans k6 (fun _ _ h => h))
      clear k6
      have fin := Lib.hid (KK.out.trans K6.out (fun k hk hn => by omega) : Kept No w _)
      go_wp2_with fail
      go_ret
      exact ⟨rfl, fin.out⟩

set_option maxRecDepth 100000 in
set_option maxHeartbeats 4000000 in
theorem heapPlays_yn (room other : Int) (v : Value) (xs : List Opr) (w : World) (hx : OpsR w (fun _ => True) v xs) (hs : ∀ x ∈ xs, OprS x) (hsz : xs.length ≤ 1048576) (hr1 : 1 ≤ room) (hr2 : room ≤ 4000) (ho : ¬ (1 ≤ other ∧ other ≤ 4000)) :
    Calls Try.prog 9 #[.int .i64 room, .int .i64 other, v] w (RetYes w) := by
  obtain ⟨A, c, rfl⟩ := hx.slice
  have HX := Lib.hid (hx.mono (fun _ _ h => h) : OpsR w (fun k => k < w.heap.size) _ xs)
  have HS := Lib.hid hs
  clear hx hs
  go_enter Try.func9, Try.ntmps9
  go_wp2_with fail
  refine (awake11_any _).mono ?_
  rintro e w1 ⟨rfl, k1⟩
  have K1 := Lib.hid k1
  clear k1
  have hz1 := K1.out.size
  have P0 := Lib.hid (Pair.new w1 room hr1)
  go_wp2_with fail
  refine (new_yes room _ hr1 hr2).mono ?_
  rintro e w2 ⟨rfl, rfl⟩
  go_wp2_with fail
  refine (new_no other _ ho).mono ?_
  rintro e w2 ⟨rfl, rfl⟩
  go_wp2_with fail
  refine (rnew_yes room _ hr1 hr2).mono ?_
  rintro e w2 ⟨rfl, rfl⟩
  go_wp2_with fail
  refine (rnew_no other _ ho).mono ?_
  rintro e w2 ⟨rfl, rfl⟩
  have K3 : Hid (Kept No w1 _) := (((Kept.refl No w1).alloc (.cells #[.int .i64 room, .slice none 0 0] 91)).alloc (.cells #[.int .i64 room, .slice none 0 0] 75))
  generalize hw3 : ((w1.alloc (.cells #[.int .i64 room, .slice none 0 0] 91)).alloc (.cells #[.int .i64 room, .slice none 0 0] 75)) = w3 at P0 K3 ⊢
  clear hw3
  have hz3 := K3.out.size
  have KK := Lib.hid (K1.out.thenNo K3.out)
  have HX3 := Lib.hid ((HX.out.keptNo KK.out).mono (fun k (h : k < w.heap.size) _ => (show k < w1.heap.size by omega)))
  generalize w1.heap.size = N at *
  clear HX K3 K1
  go_wp2_with fail
  go_loopw [16] (fun i wr => ∃ k : Nat, k ≤ xs.length ∧ i = .int .i64 k ∧ Hid (Pair N wr N (N + 1) room) ∧ Hid (Kept (fun k => N ≤ k) w3 wr)) (fun i _ => xs.length - (intOf i).toNat)
  case atStart => exact ⟨0, by omega, rfl, P0, Kept.refl _ _⟩
  case round =>
    obtain ⟨k, hk, rfl, HP, HK⟩ := hrel
    have hzr := HK.out.size
    by_cases hlt : k < xs.length
    · have hx : xs[k]? = some xs[k] := List.getElem?_eq_getElem hlt
      have hok := Lib.hid (HS.out _ (List.mem_of_getElem? hx))
      obtain ⟨b, o, c', lv, nv, he, _, _, c0, c1, c2, c3, c4, c5, hop⟩ := HX3.out.at_ hx
      injection he with he _ hc
      subst he hc
      have hbN : b < N := by assumption
      have hbz : b < w3.heap.size := by first | assumption | omega
      have hcell := fun o' => HK.out.cell (p := ⟨b, o', none⟩) hbz (by show ¬ N ≤ b; omega)
      rw [← hcell] at c0 c1 c2 c3 c4 c5
      have HO := Lib.hid (⟨hop.l.kept HK.out (fun k h hn => by omega), hop.nodes.kept HK.out (fun k h hn => by omega)⟩ : OprR wr (fun k => k < N) xs[k] lv nv)
      clear hx hcell hop
      generalize xs[k] = x at *
      rcases Bool.eq_false_or_eq_true x.two with htwo | htwo
      · rw [htwo] at c3
        clear c0 c1 c2 c4 c5 HO hok
        go_wp2_with fail
        go_roundw
        case rel => exact ⟨k + 1, by omega, by go_num, HP, HK⟩
        case measure => (simp [intOf]; try omega)
      · have hdo := Lib.hid (HP.out.do_ hr2 x lv nv HO.out hok.out (by omega))
        unfold opVal at hdo
        rw [htwo] at hdo c3
        clear HO hok
        go_wp2_with fail
        refine hdo.out.mono ?_
        rintro e w5 ⟨rfl, h5, k5⟩
        have H5 := Lib.hid h5
        have K5 := Lib.hid (HK.out.trans k5 (fun _ _ h => h))
        clear h5 k5 hdo HP HK c0 c1 c2 c3 c4 c5
        go_wp2_with fail
        go_roundw
        case rel => exact ⟨k + 1, by omega, by go_num, H5, K5⟩
        case measure => (simp [intOf]; try omega)
    · have K4 := HK
      have d5 := Lib.hid (HP.out.do_ hr2 ⟨7, 0, 0, false, [], []⟩ (.slice none 0 0) (.slice none 0 0) (OprR.bare wr _ 7) (OprS.bare 7) (by omega))
      unfold opVal at d5
      dsimp only at d5
      go_wp2_with fail
      refine d5.out.mono ?_
      rintro e w5 ⟨rfl, h5, k5⟩
      have hz5 := k5.size
      have K5 := Lib.hid (K4.out.trans k5 (fun _ _ h => h))
      clear k5
      have fin := Lib.hid (KK.out.trans K5.out (fun k hk hn => by omega) : Kept No w _)
      go_wp2_with fail
      go_ret
      exact ⟨rfl, fin.out⟩

set_option maxRecDepth 100000 in
set_option maxHeartbeats 4000000 in
theorem heapPlays_ny (room other : Int) (v : Value) (xs : List Opr) (w : World) (hx : OpsR w (fun _ => True) v xs) (hs : ∀ x ∈ xs, OprS x) (hsz : xs.length ≤ 1048576) (hr : ¬ (1 ≤ room ∧ room ≤ 4000)) (ho1 : 1 ≤ other) (ho2 : other ≤ 4000) :
    Calls Try.prog 9 #[.int .i64 room, .int .i64 other, v] w (RetYes w) := by
  obtain ⟨A, c, rfl⟩ := hx.slice
  have HX := Lib.hid (hx.mono (fun _ _ h => h) : OpsR w (fun k => k < w.heap.size) _ xs)
  have HS := Lib.hid hs
  clear hx hs
  go_enter Try.func9, Try.ntmps9
  go_wp2_with fail
  refine (awake11_any _).mono ?_
  rintro e w1 ⟨rfl, k1⟩
  have K1 := Lib.hid k1
  clear k1
  have hz1 := K1.out.size
  have P0 := Lib.hid (Pair.new w1 other ho1)
  go_wp2_with fail
  refine (new_no room _ hr).mono ?_
  rintro e w2 ⟨rfl, rfl⟩
  go_wp2_with fail
  refine (new_yes other _ ho1 ho2).mono ?_
  rintro e w2 ⟨rfl, rfl⟩
  go_wp2_with fail
  refine (rnew_no room _ hr).mono ?_
  rintro e w2 ⟨rfl, rfl⟩
  go_wp2_with fail
  refine (rnew_yes other _ ho1 ho2).mono ?_
  rintro e w2 ⟨rfl, rfl⟩
  have K3 : Hid (Kept No w1 _) := (((Kept.refl No w1).alloc (.cells #[.int .i64 other, .slice none 0 0] 91)).alloc (.cells #[.int .i64 other, .slice none 0 0] 75))
  simp only [World.size_alloc] at P0 K3 ⊢
  generalize hw3 : ((w1.alloc (.cells #[.int .i64 other, .slice none 0 0] 91)).alloc (.cells #[.int .i64 other, .slice none 0 0] 75)) = w3 at P0 K3 ⊢
  clear hw3
  have hz3 := K3.out.size
  have KK := Lib.hid (K1.out.thenNo K3.out)
  have HX3 := Lib.hid ((HX.out.keptNo KK.out).mono (fun k (h : k < w.heap.size) _ => (show k < w1.heap.size by omega)))
  generalize w1.heap.size = N at *
  clear HX K3 K1
  go_wp2_with fail
  go_loopw [16] (fun i wr => ∃ k : Nat, k ≤ xs.length ∧ i = .int .i64 k ∧ Hid (Pair N wr N (N + 1) other) ∧ Hid (Kept (fun k => N ≤ k) w3 wr)) (fun i _ => xs.length - (intOf i).toNat)
  case atStart => exact ⟨0, by omega, rfl, P0, Kept.refl _ _⟩
  case round =>
    obtain ⟨k, hk, rfl, HP, HK⟩ := hrel
    have hzr := HK.out.size
    by_cases hlt : k < xs.length
    · have hx : xs[k]? = some xs[k] := List.getElem?_eq_getElem hlt
      have hok := Lib.hid (HS.out _ (List.mem_of_getElem? hx))
      obtain ⟨b, o, c', lv, nv, he, _, _, c0, c1, c2, c3, c4, c5, hop⟩ := HX3.out.at_ hx
      injection he with he _ hc
      subst he hc
      have hbN : b < N := by assumption
      have hbz : b < w3.heap.size := by first | assumption | omega
      have hcell := fun o' => HK.out.cell (p := ⟨b, o', none⟩) hbz (by show ¬ N ≤ b; omega)
      rw [← hcell] at c0 c1 c2 c3 c4 c5
      have HO := Lib.hid (⟨hop.l.kept HK.out (fun k h hn => by omega), hop.nodes.kept HK.out (fun k h hn => by omega)⟩ : OprR wr (fun k => k < N) xs[k] lv nv)
      clear hx hcell hop
      generalize xs[k] = x at *
      rcases Bool.eq_false_or_eq_true x.two with htwo | htwo
      · have hdo := Lib.hid (HP.out.do_ ho2 x lv nv HO.out hok.out (by omega))
        unfold opVal at hdo
        rw [htwo] at hdo c3
        clear HO hok
        go_wp2_with fail
        refine hdo.out.mono ?_
        rintro e w5 ⟨rfl, h5, k5⟩
        have H5 := Lib.hid h5
        have K5 := Lib.hid (HK.out.trans k5 (fun _ _ h => h))
        clear h5 k5 hdo HP HK c0 c1 c2 c3 c4 c5
        go_wp2_with fail
        go_roundw
        case rel => exact ⟨k + 1, by omega, by go_num, H5, K5⟩
        case measure => (simp [intOf]; try omega)
      · rw [htwo] at c3
        clear c0 c1 c2 c4 c5 HO hok
        go_wp2_with fail
        go_roundw
        case rel => exact ⟨k + 1, by omega, by go_num, HP, HK⟩
        case measure => (simp [intOf]; try omega)
    · have K4 := HK
      have d5 := Lib.hid (HP.out.do_ ho2 ⟨7, 0, 0, false, [], []⟩ (.slice none 0 0) (.slice none 0 0) (OprR.bare wr _ 7) (OprS.bare 7) (by omega))
      unfold opVal at d5
      dsimp only at d5
      go_wp2_with fail
      refine d5.out.mono ?_
      rintro e w5 ⟨rfl, h5, k5⟩
      have hz5 := k5.size
      have K5 := Lib.hid (K4.out.trans k5 (fun _ _ h => h))
      clear k5
      have fin := Lib.hid (KK.out.trans K5.out (fun k hk hn => by omega) : Kept No w _)
      go_wp2_with fail
      go_ret
      exact ⟨rfl, fin.out⟩

set_option maxRecDepth 100000 in
set_option maxHeartbeats 4000000 in
theorem heapPlays_nn (room other : Int) (v : Value) (xs : List Opr) (w : World) (hx : OpsR w (fun _ => True) v xs) (hs : ∀ x ∈ xs, OprS x) (hsz : xs.length ≤ 1048576) (hr : ¬ (1 ≤ room ∧ room ≤ 4000)) (ho : ¬ (1 ≤ other ∧ other ≤ 4000)) :
    Calls Try.prog 9 #[.int .i64 room, .int .i64 other, v] w (RetYes w) := by
  obtain ⟨A, c, rfl⟩ := hx.slice
  have HX := Lib.hid (hx.mono (fun _ _ h => h) : OpsR w (fun k => k < w.heap.size) _ xs)
  have HS := Lib.hid hs
  clear hx hs
  go_enter Try.func9, Try.ntmps9
  go_wp2_with fail
  refine (awake11_any _).mono ?_
  rintro e w1 ⟨rfl, k1⟩
  have K1 := Lib.hid k1
  clear k1
  have hz1 := K1.out.size
  go_wp2_with fail
  refine (new_no room _ hr).mono ?_
  rintro e w2 ⟨rfl, rfl⟩
  go_wp2_with fail
  refine (new_no other _ ho).mono ?_
  rintro e w2 ⟨rfl, rfl⟩
  go_wp2_with fail
  refine (rnew_no room _ hr).mono ?_
  rintro e w2 ⟨rfl, rfl⟩
  go_wp2_with fail
  refine (rnew_no other _ ho).mono ?_
  rintro e w2 ⟨rfl, rfl⟩
  have K3 : Hid (Kept No w1 w1) := Kept.refl No w1
  obtain ⟨w3, hw3⟩ : ∃ w3, w3 = w1 := ⟨_, rfl⟩
  rw [← hw3]
  rw [← hw3] at K3 K1 hz1
  clear hw3
  have KK := Lib.hid K1.out
  have HX3 := Lib.hid ((HX.out.keptNo KK.out).mono (fun k (h : k < w.heap.size) _ => (show k < w3.heap.size by omega)))
  generalize hNN : w3.heap.size = N at *
  have hz3 : N ≤ w3.heap.size := by omega
  clear HX K3 K1
  go_wp2_with fail
  go_loopw [16] (fun i wr => ∃ k : Nat, k ≤ xs.length ∧ i = .int .i64 k ∧ Hid (True) ∧ Hid (Kept (fun k => N ≤ k) w3 wr)) (fun i _ => xs.length - (intOf i).toNat)
  case atStart => exact ⟨0, by omega, rfl, trivial, Kept.refl _ _⟩
  case round =>
    obtain ⟨k, hk, rfl, HP, HK⟩ := hrel
    have hzr := HK.out.size
    by_cases hlt : k < xs.length
    · have hx : xs[k]? = some xs[k] := List.getElem?_eq_getElem hlt
      have hok := Lib.hid (HS.out _ (List.mem_of_getElem? hx))
      obtain ⟨b, o, c', lv, nv, he, _, _, c0, c1, c2, c3, c4, c5, hop⟩ := HX3.out.at_ hx
      injection he with he _ hc
      subst he hc
      have hbN : b < N := by assumption
      have hbz : b < w3.heap.size := by first | assumption | omega
      have hcell := fun o' => HK.out.cell (p := ⟨b, o', none⟩) hbz (by show ¬ N ≤ b; omega)
      rw [← hcell] at c0 c1 c2 c3 c4 c5
      have HO := Lib.hid (⟨hop.l.kept HK.out (fun k h hn => by omega), hop.nodes.kept HK.out (fun k h hn => by omega)⟩ : OprR wr (fun k => k < N) xs[k] lv nv)
      clear hx hcell hop
      generalize xs[k] = x at *
      rcases Bool.eq_false_or_eq_true x.two with htwo | htwo
      · rw [htwo] at c3
        clear c0 c1 c2 c4 c5 HO hok
        go_wp2_with fail
        go_roundw
        case rel => exact ⟨k + 1, by omega, by go_num, HP, HK⟩
        case measure => (simp [intOf]; try omega)
      · rw [htwo] at c3
        clear c0 c1 c2 c4 c5 HO hok
        go_wp2_with fail
        go_roundw
        case rel => exact ⟨k + 1, by omega, by go_num, HP, HK⟩
        case measure => (simp [intOf]; try omega)
    · have K4 := HK
      have fin := Lib.hid (KK.out.trans K4.out (fun k hk hn => by omega) : Kept No w _)
      go_wp2_with fail
      go_ret
      exact ⟨rfl, fin.out⟩

theorem heapPlays_any (room other : Int) (v : Value) (xs : List Opr) (w : World) (hx : OpsR w (fun _ => True) v xs) (hs : ∀ x ∈ xs, OprS x) (hsz : xs.length ≤ 1048576) :
    Calls Try.prog 9 #[.int .i64 room, .int .i64 other, v] w (RetYes w) := by
  by_cases hr : 1 ≤ room ∧ room ≤ 4000 <;> by_cases ho : 1 ≤ other ∧ other ≤ 4000
  · exact heapPlays_yy room other v xs w hx hs hsz hr.1 hr.2 ho.1 ho.2
  · exact heapPlays_yn room other v xs w hx hs hsz hr.1 hr.2 ho
  · exact heapPlays_ny room other v xs w hx hs hsz hr ho.1 ho.2
  · exact heapPlays_nn room other v xs w hx hs hsz hr ho
end Go.Proofs.Ytooalgnppnmeaaa
