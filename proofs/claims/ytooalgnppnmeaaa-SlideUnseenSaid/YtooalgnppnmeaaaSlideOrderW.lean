/- SlideOrder: the walk. -/
import Derived.Test.YtooalgnppnmeaaaMade
import Derived.BigQuiet
namespace Go.Proofs.Ytooalgnppnmeaaa
open Go.RowKit

theorem someP_ok {ns : List Nd} (raw : List Int) : okRoots ns (someP raw ns.length) = true := by
  unfold okRoots someP
  split
  · rfl
  · rename_i h
    rw [List.all_eq_true]
    intro x hx
    obtain ⟨c, _, rfl⟩ := List.mem_map.1 hx
    exact inR_iff.2 (pickP_range c ns.length (by omega))
theorem someP_length (raw : List Int) (n : Nat) : (someP raw n).length ≤ raw.length := by
  unfold someP
  split
  · simp
  · simp
theorem rank_mono {keep : List Bool} {a b : Int} (h : a ≤ b) : rankK keep a ≤ rankK keep b := by
  unfold rankK
  have := liveUp_mono (keep := keep) (show a.toNat ≤ b.toNat by omega)
  omega
theorem live_inc {keep : List Bool} {n i : Nat} {x y : Int} (hx : (liveUp keep n)[i]? = some x) (hy : (liveUp keep n)[i + 1]? = some y) : x < y := by
  have h1 := liveUp_rank' hx
  have h2 := liveUp_rank' hy
  by_cases h : x < y
  · exact h
  · have := rank_mono (keep := keep) (show y ≤ x by omega)
    omega
theorem liveOf_eq {ns : List Nd} {is roots : List Int} (h : okRoots ns roots = true) : liveOf ns is roots = liveUp (keepOf ns is roots) ns.length := by
  unfold liveOf liveK
  rw [if_pos h, keepOf_length]

set_option maxRecDepth 100000 in
set_option maxHeartbeats 4000000 in
theorem slideOrder_any (v0 : Value) (l : List Nd) (v1 : Value) (raw : List Int) (w : World) (hl : NodesR w (fun _ => True) v0 l) (hB : Bulk l) (hr : RowR w 1 (fun _ => True) v1 raw.length (ints raw)) (hI : ∀ x ∈ raw, I64 x) (hsz : raw.length ≤ 1048576) :
    Calls Try.prog 14 #[v0, v1] w (RetYes w) := by
  obtain ⟨A0, c0, rfl⟩ := hl.slice
  obtain ⟨A1, c1, rfl⟩ := hr.slice
  have HL := Lib.hid (hl.mono (fun _ _ h => h) : NodesR w (fun k => k < w.heap.size) _ l)
  have HRr := Lib.hid (hr.mono (fun _ _ h => h) : RowR w 1 (fun k => k < w.heap.size) _ raw.length (ints raw))
  have HB := Lib.hid hB
  have HII := Lib.hid hI
  clear hl hr hB hI
  go_enter Try.func14, Try.ntmps14
  go_wp2_with fail
  refine (awake12_any _).mono ?_
  rintro e w1 ⟨rfl, k1⟩
  have K1 := Lib.hid k1
  have HL1 := Lib.hid (HL.out.keptNo k1)
  have HR1 := Lib.hid (HRr.out.keptNo k1)
  have hz1 := k1.size
  clear k1 HL HRr
  go_wp2_with fail
  refine (made_any HL1.out HB.out).mono ?_
  rintro e w2 ⟨hno, hyes⟩
  by_cases hg : Good 4000 l
  · obtain ⟨hb, rb, F1, F2, rfl, b2, hf1, hf2, k2⟩ := hyes hg
    have hlen : l.length ≤ 4000 := by have := hg.len; omega
    obtain ⟨is, his⟩ := IsL.exists_ hg.sane hg.acyc
    have HGd := Lib.hid hg
    have HIs := Lib.hid his
    have H2 := Lib.hid b2.h
    have HBn := Lib.hid b2.b1
    have K2 := Lib.hid (K1.out.thenNo k2)
    have HL2 := Lib.hid (HL1.out.keptNo k2)
    have HR2 := Lib.hid (HR1.out.keptNo k2)
    have hF : Hid (∀ k, F1 k → w.heap.size ≤ k) := fun k hk => Nat.le_trans hz1 (hf1 k hk)
    have hz2 := k2.size
    clear hno hyes hg his b2 hf1 hf2 k2 HL1 HR1 K1
    go_wp2_with fail
    refine (some_any HR2.out HII.out (by omega) hlen).mono ?_
    rintro e w3 ⟨rv, rfl, o3, k3⟩
    have hok := someP_ok (ns := l) raw
    have hrl := someP_length raw l.length
    generalize someP raw l.length = roots at *
    obtain ⟨Ar, cr, rfl⟩ := (own_reads o3 (F := fun _ => True) (fun _ _ => trivial)).slice
    have HRo := Lib.hid (own_reads o3 (F := fun k => w2.heap.size ≤ k) (fun k hk => (o3.lt k hk).1))
    have H3 := Lib.hid (H2.out.keptNo k3)
    have HL3 := Lib.hid (HL2.out.keptNo k3)
    have K3 := Lib.hid (K2.out.thenNo k3)
    have HOK := Lib.hid hok
    have hz3 := k3.size
    clear o3 k3 hok H2 HL2 HR2 K2
    go_wp2_with fail
    refine (live_any H3.out HGd.out.sane HGd.out.acyc hlen HIs.out HRo.out (by omega)).mono ?_
    rintro e w4 ⟨lv, rfl, o4, k4⟩
    rw [show errOf l roots = 0 by unfold errOf; rw [if_pos HOK.out]]
    rw [liveOf_eq HOK.out] at o4
    obtain ⟨keep, hkp⟩ : ∃ keep, keep = keepOf l is roots := ⟨_, rfl⟩
    rw [← hkp] at o4
    have HKP := Lib.hid hkp
    obtain ⟨Al, cl, rfl⟩ := (own_reads o4 (F := fun _ => True) (fun _ _ => trivial)).slice
    have O4 := Lib.hid o4
    have H4 := Lib.hid (H3.out.keptNo k4)
    have HL4 := Lib.hid (HL3.out.keptNo k4)
    have HR4 := Lib.hid (HRo.out.keptNo k4)
    have K4 := Lib.hid (K3.out.thenNo k4)
    have hz4 := k4.size
    clear o4 k4 hkp H3 HL3 HRo K3
    go_wp2_with fail
    refine (collect_any H4.out (HBn.out.le (by omega)) HGd.out (by decide) HIs.out HR4.out (fun k hk hf => by have := HBn.out k hf; omega) (by omega)).mono ?_
    rintro e w5 ⟨_, hc⟩
    obtain ⟨v5, m, rfl, h5, o5, hm1, hm2, k5⟩ := hc HOK.out
    clear hc
    have es : slideOf l is roots = slideAll l keep is := by unfold slideOf; rw [← HKP.out]
    rw [es] at h5 ⊢
    have hsl : (slideAll l keep is).length = (liveUp keep l.length).length := slideUp_length _ _ _ _
    have hll := liveUp_le keep l.length
    obtain ⟨A5, c5, rfl⟩ := (own_reads o5 (F := fun _ => True) (fun _ _ => trivial)).slice
    have hsg : Good 4000 (slideAll l keep is) := slide_good HGd.out HIs.out (by rw [HKP.out]; exact keepOk_of HGd.out.sane HIs.out HOK.out)
    have HSG := Lib.hid hsg
    have H5 := Lib.hid h5
    have B5 : Hid (Bnd (fun k => F1 k ∨ w4.heap.size ≤ k ∧ k < m) w5) := fun k hk => by
      rcases hk with hk | hk
      · have := HBn.out k hk; omega
      · omega
    have O5 := Lib.hid (own_kept O4.out k5 (fun k hk hf => by have := (O4.out.lt k hk).1; have := HBn.out k hf; omega))
    have HL5 := Lib.hid (HL4.out.kept k5 (fun k hk hf => by have := hF.out k hf; omega))
    have K5 : Hid (Kept No w w5) := K4.out.trans k5 (fun k hlt hf => by have := hF.out k hf; omega)
    clear h5 o5 k5 hsg es H4 HL4 HR4 K4 O4
    go_wp2_with fail
    refine (told_law12 H5.out B5.out HSG.out.sane (by rw [hsl]; omega)).mono ?_
    rintro e w6 ⟨tv, rfl, h6, k6⟩
    obtain ⟨A6, c6, hv6⟩ := h6.reads.slice
    rw [hsl] at hv6
    subst hv6
    have HN6 := Lib.hid h6.reads
    have O6 := Lib.hid (own_kept O5.out k6 (fun _ _ hn => hn))
    have HL6 := Lib.hid (HL5.out.keptNo k6)
    have K6 := Lib.hid (K5.out.thenNo k6)
    clear h6 k6 H5 B5 O5 HL5 K5
    go_wp2_with fail
    go_loopw [16] (fun t16 wr => ∃ k : Nat, k ≤ (liveUp keep l.length).length ∧ t16 = .int .i64 k ∧ Hid (Kept No w6 wr)) (fun t16 _ => (liveUp keep l.length).length - (intOf t16).toNat)
    case atStart => exact ⟨0, by omega, rfl, Kept.refl _ _⟩
    case round =>
      obtain ⟨k, hk, rfl, HK⟩ := hrel
      by_cases hlt : k < (liveUp keep l.length).length
      · have hx : (liveUp keep l.length)[k]? = some (liveUp keep l.length)[k] := List.getElem?_eq_getElem hlt
        have hms : k < (slideAll l keep is).length := by rw [hsl]; exact hlt
        obtain ⟨y, n, hy, hn, hse, hm⟩ := slideAll_at (List.getElem?_eq_getElem hms)
        have hmem := liveUp_mem.1 (List.mem_of_getElem? hy)
        obtain ⟨hn1, hn2⟩ := ndAt_inR hn
        have happ := (keepOk_of HGd.out.sane HIs.out HOK.out).app y n hn (by rw [← HKP.out]; exact hse)
        have hso := own_kept O6.out HK.out (fun _ _ hn => hn)
        obtain ⟨g, c', u, he, hu, hcu, _⟩ := own_get hso hlt
        injection he with he _ hc
        subst he hc
        have hu2 : u = .int .i64 y := by
          rw [ints_get, hy] at hu
          simpa using hu.symm
        subst hu2
        have hgz : Hid (∀ j x, j + 1 = k → (liveUp keep l.length)[j]? = some x → wr.cell? ⟨g, j, none⟩ = some (.int .i64 x) ∧ x < y) := fun j x hj hx2 => by
          refine ⟨?_, live_inc hx2 (by rw [hj]; exact hy)⟩
          rw [hso.cellAt j (by omega), ints_get, hx2]
          rfl
        obtain ⟨hy0, hy1, _⟩ := hmem
        have a1 : decide (y < 0) = false := by simpa using hy0
        have a2 : decide ((l.length : Int) ≤ y) = false := by simpa using hy1
        have HN2 := Lib.hid hn2
        have HM := Lib.hid hm
        have HAP := Lib.hid happ
        clear hu hx hso hn hn1 hn2 hm happ
        by_cases hk0 : k = 0
        · subst hk0
          go_wp2_with fail
          go_quiet (fail)
          generalize hW8 : World.drewN wr nq = W8
          have k8 : Kept No wr W8 := hW8 ▸ (Kept.refl No wr).drewN nq
          have K8 := Lib.hid (HK.out.thenNo k8)
          have hc8 : W8.cell? ⟨g, 0, none⟩ = some (.int .i64 y) := by rw [(own_kept O6.out K8.out (fun _ _ hn => hn)).cellAt 0 (by omega), ints_get, hy]; rfl
          obtain ⟨b0, o0, e0, a0, he0, _, _, x0, x1, x2, x3, x4, hrow0⟩ := (HL6.out.keptNo K8.out).at_ HN2.out
          injection he0 with he0 _ hc
          subst he0 hc
          obtain ⟨B0, d0, rfl⟩ := hrow0.slice
          have hyn : y.toNat < l.length := by omega
          obtain ⟨b9, o9, e9, a9, he9, _, _, z0, z1, z2, z3, z4, hrow9⟩ := (HN6.out.keptNo (K8.out.thenNo ((Kept.refl No W8).alloc (.cells #[.int .i64 n.sym, .slice B0 n.args.length d0, .int .i64 n.mark, .bool n.pts, .int .i64 n.to] 32)))).at_ (List.getElem?_eq_getElem hms)
          rw [hsl] at he9
          injection he9 with he9 _ hc
          subst he9 hc
          obtain ⟨B9, d9, rfl⟩ := hrow9.slice
          rw [HM.out] at z0 z1 z2 z3 z4
          dsimp only [slideNd] at z0 z1 z2 z3 z4
          simp only [Nat.zero_mul, Nat.add_zero] at z0 z1 z2 z3 z4
          rw [List.length_map, HAP.out] at *
          have KF := Lib.hid (K8.out.thenNo ((Kept.refl No W8).alloc (.cells #[.int .i64 n.sym, .slice B0 n.args.length d0, .int .i64 n.mark, .bool false, .int .i64 n.to] 32)))
          clear hrow0 hrow9 hW8 k8
          go_wp2_with fail
          go_quiet (fail)
          go_wp2_with fail
          go_roundw
          case rel => exact ⟨0 + 1, by omega, by go_num, KF.out.drewN _⟩
          case measure => (simp [intOf]; try omega)
        · obtain ⟨j, rfl⟩ : ∃ j, k = j + 1 := ⟨k - 1, by omega⟩
          obtain ⟨q0, q1⟩ := hgz.out j _ rfl (List.getElem?_eq_getElem (by omega))
          generalize (liveUp keep l.length)[j] = x at *
          have a3 : decide (y ≤ x) = false := by simpa using q1
          have a4 : (0 : Int) ≤ (j : Int) := by omega
          have a5 : (j : Int) < ((liveUp keep l.length).length : Int) := by omega
          go_wp2_with fail
          go_quiet (fail)
          generalize hW8 : World.drewN wr nq = W8
          have k8 : Kept No wr W8 := hW8 ▸ (Kept.refl No wr).drewN nq
          have K8 := Lib.hid (HK.out.thenNo k8)
          have hc8 : W8.cell? ⟨g, j + 1, none⟩ = some (.int .i64 y) := by rw [(own_kept O6.out K8.out (fun _ _ hn => hn)).cellAt (j + 1) (by omega), ints_get, hy]; rfl
          obtain ⟨b0, o0, e0, a0, he0, _, _, x0, x1, x2, x3, x4, hrow0⟩ := (HL6.out.keptNo K8.out).at_ HN2.out
          injection he0 with he0 _ hc
          subst he0 hc
          obtain ⟨B0, d0, rfl⟩ := hrow0.slice
          have hyn : y.toNat < l.length := by omega
          obtain ⟨b9, o9, e9, a9, he9, _, _, z0, z1, z2, z3, z4, hrow9⟩ := (HN6.out.keptNo (K8.out.thenNo ((Kept.refl No W8).alloc (.cells #[.int .i64 n.sym, .slice B0 n.args.length d0, .int .i64 n.mark, .bool n.pts, .int .i64 n.to] 32)))).at_ (List.getElem?_eq_getElem hms)
          rw [hsl] at he9
          injection he9 with he9 _ hc
          subst he9 hc
          obtain ⟨B9, d9, rfl⟩ := hrow9.slice
          rw [HM.out] at z0 z1 z2 z3 z4
          dsimp only [slideNd] at z0 z1 z2 z3 z4
          rw [List.length_map, HAP.out] at *
          have KF := Lib.hid (K8.out.thenNo ((Kept.refl No W8).alloc (.cells #[.int .i64 n.sym, .slice B0 n.args.length d0, .int .i64 n.mark, .bool false, .int .i64 n.to] 32)))
          clear hrow0 hrow9 hW8 k8
          go_wp2_with fail
          go_quiet (fail)
          go_wp2_with fail
          go_roundw
          case rel => exact ⟨j + 1 + 1, by omega, by go_num, KF.out.drewN _⟩
          case measure => (simp [intOf]; try omega)
      · have hke : k = (liveUp keep l.length).length := by omega
        subst hke
        have fin := Lib.hid (K6.out.thenNo HK.out)
        go_wp2_with fail
        go_ret
        exact ⟨rfl, fin.out⟩
  · obtain ⟨rfl, k2⟩ := hno hg
    have fin := Lib.hid (K1.out.thenNo k2)
    clear hno hyes k2
    go_wp2_with fail
    go_ret
    exact ⟨rfl, fin.out⟩
end Go.Proofs.Ytooalgnppnmeaaa
