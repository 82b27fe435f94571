/- SlideAgain: the walk. -/
import Derived.Test.YtooalgnppnmeaaaSlideOrderW
import Derived.Test.YtooalgnppnmeaaaSlideA
import Derived.Test.YtooalgnppnmeaaaS2
namespace Go.Proofs.Ytooalgnppnmeaaa
open Go.RowKit

theorem short_of {room : Int} {ns : List Nd} (h : Good room ns) (hr : room ≤ 4000) : Short ns := ⟨by have := h.len; omega, fun n hn => by have := (h.may n hn).2.1; omega⟩
set_option maxRecDepth 100000 in
set_option maxHeartbeats 4000000 in
theorem slideAgain_any (v0 : Value) (l : List Nd) (v1 : Value) (raw : List Int) (w : World) (hl : NodesR w (fun _ => True) v0 l) (hB : Bulk l) (hr : RowR w 1 (fun _ => True) v1 raw.length (ints raw)) (hI : ∀ x ∈ raw, I64 x) (hsz : raw.length ≤ 1048576) :
    Calls Try.prog 15 #[v0, v1] w (RetYes w) := by
  obtain ⟨A0, c0, rfl⟩ := hl.slice
  obtain ⟨A1, c1, rfl⟩ := hr.slice
  have HL := Lib.hid (hl.mono (fun _ _ h => h) : NodesR w (fun k => k < w.heap.size) _ l)
  have HRr := Lib.hid (hr.mono (fun _ _ h => h) : RowR w 1 (fun k => k < w.heap.size) _ raw.length (ints raw))
  have HB := Lib.hid hB
  have HII := Lib.hid hI
  clear hl hr hB hI
  go_enter Try.func15, Try.ntmps15
  go_wp2_with fail
  refine (awake12_any _).mono ?_
  rintro e w1 ⟨rfl, k1⟩
  have K1 := Lib.hid k1
  have HL1 := Lib.hid (HL.out.keptNo k1)
  have HR1 := Lib.hid (HRr.out.keptNo k1)
  have hz1 := k1.size
  clear k1 HL HRr
  go_wp2_with fail
  refine (made_any HL1.out HB.out).mono ?_
  rintro e w2 ⟨hno, hyes⟩
  by_cases hg : Good 4000 l
  · obtain ⟨hb, rb, F1, F2, rfl, b2, hf1, hf2, k2⟩ := hyes hg
    have hlen : l.length ≤ 4000 := by have := hg.len; omega
    obtain ⟨is, his⟩ := IsL.exists_ hg.sane hg.acyc
    have HGd := Lib.hid hg
    have HIs := Lib.hid his
    have H2 := Lib.hid b2.h
    have HBn := Lib.hid b2.b1
    have K2 := Lib.hid (K1.out.thenNo k2)
    have HL2 := Lib.hid (HL1.out.keptNo k2)
    have HR2 := Lib.hid (HR1.out.keptNo k2)
    have hF : Hid (∀ k, F1 k → w.heap.size ≤ k) := fun k hk => Nat.le_trans hz1 (hf1 k hk)
    have hz2 := k2.size
    clear hno hyes hg his b2 hf1 hf2 k2 HL1 HR1 K1
    go_wp2_with fail
    refine (some_any HR2.out HII.out (by omega) hlen).mono ?_
    rintro e w3 ⟨rv, rfl, o3, k3⟩
    have hok := someP_ok (ns := l) raw
    have hrl := someP_length raw l.length
    generalize someP raw l.length = roots at *
    obtain ⟨Ar, cr, rfl⟩ := (own_reads o3 (F := fun _ => True) (fun _ _ => trivial)).slice
    have HRo := Lib.hid (own_reads o3 (F := fun k => w2.heap.size ≤ k) (fun k hk => (o3.lt k hk).1))
    have H3 := Lib.hid (H2.out.keptNo k3)
    have HL3 := Lib.hid (HL2.out.keptNo k3)
    have K3 := Lib.hid (K2.out.thenNo k3)
    have HOK := Lib.hid hok
    have hz3 := k3.size
    clear o3 k3 hok H2 HL2 HR2 K2 HL3
    go_wp2_with fail
    refine (collect_any H3.out (HBn.out.le (by omega)) HGd.out (by decide) HIs.out HRo.out (fun k hk hf => by have := HBn.out k hf; omega) (by omega)).mono ?_
    rintro e w5 ⟨_, hc⟩
    obtain ⟨v5, m, rfl, h5, o5, hm1, hm2, k5⟩ := hc HOK.out
    clear hc
    have hsg : Good 4000 (slideOf l is roots) := slide_good HGd.out HIs.out (keepOk_of HGd.out.sane HIs.out HOK.out)
    have hpts : Hid (∀ x ∈ slideOf l is roots, x.pts = false) := slide_app (keepOk_of HGd.out.sane HIs.out HOK.out)
    have hid := isL_id hpts.out
    have HAk := Lib.hid (again_live HGd.out.sane HIs.out HOK.out)
    have HAs := Lib.hid (again_slide HGd.out.sane HIs.out HOK.out hsg.sane)
    have HAt := Lib.hid (again_to HGd.out.sane HIs.out HOK.out)
    have HAo := Lib.hid (to_ok HIs.out HOK.out)
    have htl : (toOf l is roots).length = roots.length := by simp [toOf]
    rw [← htl] at o5
    have hbig : (toOf l is roots).length ≤ 1048576 := by omega
    clear htl
    generalize slideOf l is roots = ms at *
    generalize toOf l is roots = to' at *
    have hml : ms.length ≤ 4000 := by have := hsg.len; omega
    obtain ⟨A5, c5, rfl⟩ := (own_reads o5 (F := fun _ => True) (fun _ _ => trivial)).slice
    have HSG := Lib.hid hsg
    have HID := Lib.hid hid
    have H5 := Lib.hid h5
    have B5 : Hid (Bnd (fun k => F1 k ∨ w3.heap.size ≤ k ∧ k < m) w5) := fun k hk => by
      rcases hk with hk | hk
      · have := HBn.out k hk; omega
      · omega
    have O5 := Lib.hid o5
    have K5 : Hid (Kept No w w5) := K3.out.trans k5 (fun k hlt hf => by have := hF.out k hf; omega)
    clear h5 o5 k5 hsg hid H3 HRo K3
    go_wp2_with fail
    refine (told_law12 H5.out B5.out HSG.out.sane hml).mono ?_
    rintro e w6 ⟨tv, rfl, h6, k6⟩
    obtain ⟨A6, c6, rfl⟩ := h6.reads.slice
    have HN6 := Lib.hid (h6.reads.mono (F' := fun k => w5.heap.size ≤ k) (fun k hk _ => hk.1))
    have O6 := Lib.hid (own_kept O5.out k6 (fun _ _ hn => hn))
    have H6 := Lib.hid (H5.out.keptNo k6)
    have K6 := Lib.hid (K5.out.thenNo k6)
    have hz6 := k6.size
    clear h6 k6 H5 O5 K5
    go_wp2_with fail
    have hr6 := own_reads O6.out (F := fun k => m ≤ k) (fun k hk => (O6.out.lt k hk).1)
    refine (live_any H6.out HSG.out.sane HSG.out.acyc hml HID.out hr6 (by omega)).mono ?_
    rintro e w7 ⟨lv, rfl, o7, k7⟩
    rw [show errOf ms to' = 0 by unfold errOf; rw [if_pos HAo.out]]
    rw [HAk.out] at o7
    obtain ⟨A7, c7, hv7⟩ := (own_reads o7 (F := fun _ => True) (fun _ _ => trivial)).slice
    have hidl : (idL ms.length).length = ms.length := by simp [idL]
    rw [hidl] at hv7 o7
    subst hv7
    clear hidl
    have O7 := Lib.hid o7
    have HN7 := Lib.hid (HN6.out.keptNo k7)
    have H7 := Lib.hid (H6.out.keptNo k7)
    have T7 := Lib.hid (own_kept O6.out k7 (fun _ _ hn => hn))
    have K7 := Lib.hid (K6.out.thenNo k7)
    have hz7 := k7.size
    clear o7 k7 hr6 HN6 H6 O6 K6
    go_wp2_with fail
    have hr7 := own_reads T7.out (F := fun k => m ≤ k) (fun k hk => (T7.out.lt k hk).1)
    refine (collect_any H7.out (B5.out.le (by omega)) HSG.out (by decide) HID.out hr7 (fun k hk hf => by
      rcases hf with hf | hf
      · have := HBn.out k hf; omega
      · omega) (by omega)).mono ?_
    rintro e w8 ⟨_, hc⟩
    obtain ⟨v8, m8, rfl, h8, o8, hm8, hm9, k8⟩ := hc HAo.out
    clear hc hr7
    rw [HAs.out] at h8 ⊢
    rw [HAt.out] at o8
    obtain ⟨A8, c8, rfl⟩ := (own_reads o8 (F := fun _ => True) (fun _ _ => trivial)).slice
    have O8 := Lib.hid o8
    have H8 := Lib.hid h8
    have B8 : Hid (Bnd (fun k => (F1 k ∨ w3.heap.size ≤ k ∧ k < m) ∨ w7.heap.size ≤ k ∧ k < m8) w8) := fun k hk => by
      rcases hk with hk | hk
      · have := B5.out k hk; omega
      · omega
    have T8 := Lib.hid (own_kept T7.out k8 (fun k hk hf => by
      have := (T7.out.lt k hk).1
      rcases hf with hf | hf
      · have := HBn.out k hf; omega
      · omega))
    have HN8 := Lib.hid (HN7.out.kept k8 (fun k hk hf => by have := B5.out k hf; omega))
    have L8 := Lib.hid (own_kept O7.out k8 (fun k hk hf => by have := (O7.out.lt k hk).1; have := B5.out k hf; omega))
    have K8 : Hid (Kept No w w8) := K7.out.trans k8 (fun k hlt hf => by
      rcases hf with hf | hf
      · have := hF.out k hf; omega
      · omega)
    clear h8 o8 k8 H7 T7 HN7 O7 K7
    have hzero : ((ms.length : Int) - (ms.length : Int)) = 0 := by omega
    rw [hzero]
    go_wp2_with fail
    refine (told_law12 H8.out B8.out HSG.out.sane hml).mono ?_
    rintro e w9 ⟨tv, rfl, h9, k9⟩
    obtain ⟨A9, c9, rfl⟩ := h9.reads.slice
    have HM9 := Lib.hid h9.reads
    have HN9 := Lib.hid (HN8.out.keptNo k9)
    have L9 := Lib.hid (own_kept L8.out k9 (fun _ _ hn => hn))
    have T9 := Lib.hid (own_kept T8.out k9 (fun _ _ hn => hn))
    have O9 := Lib.hid (own_kept O8.out k9 (fun _ _ hn => hn))
    have K9 := Lib.hid (K8.out.thenNo k9)
    clear h9 k9 H8 B8 T8 O8 HN8 L8 K8
    go_wp2_with fail
    go_loopw [20] (fun t20 wr => ∃ k : Nat, k ≤ ms.length ∧ t20 = .int .i64 k ∧ Hid (Kept No w9 wr)) (fun t20 _ => ms.length - (intOf t20).toNat)
    case atStart => exact ⟨0, by omega, rfl, Kept.refl _ _⟩
    case round =>
      obtain ⟨k, hk, rfl, HK⟩ := hrel
      by_cases hlt : k < ms.length
      · have hx : ms[k]? = some ms[k] := List.getElem?_eq_getElem hlt
        obtain ⟨b0, o0, e0, a0, he0, _, _, x0, x1, x2, x3, x4, hrow0⟩ := (HN9.out.keptNo HK.out).at_ hx
        injection he0 with he0 _ hc
        subst he0 hc
        rw [hpts.out _ (List.mem_of_getElem? hx)] at x3
        obtain ⟨g, c', u, he, hu, hcu, _⟩ := own_get (own_kept L9.out HK.out (fun _ _ hn => hn)) hlt
        injection he with he _ hc
        subst he hc
        have hu2 : u = .int .i64 (k : Int) := by
          rw [ints_get] at hu
          unfold idL at hu
          rw [List.getElem?_map, List.getElem?_range hlt] at hu
          simpa using hu.symm
        subst hu2
        clear hu hx hrow0
        go_wp2_with fail
        go_roundw
        case rel => exact ⟨k + 1, by omega, by go_num, HK⟩
        case measure => (simp [intOf]; try omega)
      · have hke : k = ms.length := by omega
        subst hke
        have hsh := Lib.hid (short_of HSG.out (by decide))
        go_wp2_with fail
        refine (sameNodes_any (HN9.out.keptNo HK.out) (HM9.out.keptNo HK.out) hsh.out hsh.out).mono ?_
        rintro e wa ⟨rfl, ka⟩
        rw [decide_eq_true rfl]
        have KA := Lib.hid (HK.out.thenNo ka)
        clear ka
        go_wp2_with fail
        have s1 := own_reads (own_kept T9.out KA.out (fun _ _ hn => hn)) (F := fun _ => True) (fun _ _ => trivial)
        have s2 := own_reads (own_kept O9.out KA.out (fun _ _ hn => hn)) (F := fun _ => True) (fun _ _ => trivial)
        refine (sameInts_any s1 s2 (by omega) (by omega)).mono ?_
        rintro e wb ⟨rfl, kb⟩
        rw [decide_eq_true rfl]
        have fin := Lib.hid ((K9.out.thenNo KA.out).thenNo kb)
        clear kb s1 s2
        go_wp2_with fail
        go_ret
        exact ⟨rfl, fin.out⟩
  · obtain ⟨rfl, k2⟩ := hno hg
    have fin := Lib.hid (K1.out.thenNo k2)
    clear hno hyes k2
    go_wp2_with fail
    go_ret
    exact ⟨rfl, fin.out⟩
end Go.Proofs.Ytooalgnppnmeaaa
