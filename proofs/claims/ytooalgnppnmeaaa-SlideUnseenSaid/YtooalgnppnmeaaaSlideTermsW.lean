/- SlideTerms: the walk. -/
import Derived.Test.YtooalgnppnmeaaaSlideOrderW
import Derived.Test.YtooalgnppnmeaaaSlideT
import Derived.Test.YtooalgnppnmeaaaAlike
import Derived.Deep.RegionLaw
import Derived.Deep.DeepCutAuto
namespace Go.Proofs.Ytooalgnppnmeaaa
open Go.RowKit

theorem row_at {w : World} {base n : Nat} {v : Value} {l : List Int} (h : w.ownsRow base 3 1 v n (ints l)) (hn : n = l.length) {k : Nat} {x : Int} (hx : l[k]? = some x) : ∃ g c, v = .slice (some ⟨g, 0, none⟩) n c ∧ w.cell? ⟨g, k, none⟩ = some (.int .i64 x) := by
  have hl := (List.getElem?_eq_some_iff.1 hx).1
  obtain ⟨g, c, u, e, hu, hc, _⟩ := own_get h (i := k) (by omega)
  refine ⟨g, c, e, ?_⟩
  rw [ints_get, hx] at hu
  rw [hc, ← hu]; rfl

set_option maxRecDepth 100000 in
set_option maxHeartbeats 4000000 in
theorem slideTerms_any (v0 : Value) (l : List Nd) (v1 : Value) (raw : List Int) (w : World) (hl : NodesR w (fun _ => True) v0 l) (hB : Bulk l) (hr : RowR w 1 (fun _ => True) v1 raw.length (ints raw)) (hI : ∀ x ∈ raw, I64 x) (hsz : raw.length ≤ 1048576) :
    Calls Try.prog 13 #[v0, v1] w (RetYes w) := by
  obtain ⟨A0, c0, rfl⟩ := hl.slice
  obtain ⟨A1, c1, rfl⟩ := hr.slice
  have HL := Lib.hid (hl.mono (fun _ _ h => h) : NodesR w (fun k => k < w.heap.size) _ l)
  have HRr := Lib.hid (hr.mono (fun _ _ h => h) : RowR w 1 (fun k => k < w.heap.size) _ raw.length (ints raw))
  have HB := Lib.hid hB
  have HII := Lib.hid hI
  clear hl hr hB hI
  go_enter Try.func13, Try.ntmps13
  go_wp2_with fail
  refine (awake12_any _).mono ?_
  rintro e w1 ⟨rfl, k1⟩
  have K1 := Lib.hid k1
  have HL1 := Lib.hid (HL.out.keptNo k1)
  have HR1 := Lib.hid (HRr.out.keptNo k1)
  have hz1 := k1.size
  clear k1 HL HRr
  go_wp2_with fail
  refine (made_any HL1.out HB.out).mono ?_
  rintro e w2 ⟨hno, hyes⟩
  by_cases hg : Good 4000 l
  · obtain ⟨hb, rb, F1, F2, rfl, b2, hf1, hf2, k2⟩ := hyes hg
    have hlen : l.length ≤ 4000 := by have := hg.len; omega
    obtain ⟨is, his⟩ := IsL.exists_ hg.sane hg.acyc
    have HGd := Lib.hid hg
    have HIs := Lib.hid his
    have H2 := Lib.hid b2.h
    have HBn := Lib.hid b2.b1
    have K2 := Lib.hid (K1.out.thenNo k2)
    have HL2 := Lib.hid (HL1.out.keptNo k2)
    have HR2 := Lib.hid (HR1.out.keptNo k2)
    have hF : Hid (∀ k, F1 k → w.heap.size ≤ k) := fun k hk => Nat.le_trans hz1 (hf1 k hk)
    have hz2 := k2.size
    clear hno hyes hg his b2 hf1 hf2 k2 HL1 HR1 K1
    go_wp2_with fail
    refine (some_any HR2.out HII.out (by omega) hlen).mono ?_
    rintro e w3 ⟨rv, rfl, o3, k3⟩
    have hok := someP_ok (ns := l) raw
    have hrl := someP_length raw l.length
    generalize someP raw l.length = roots at *
    obtain ⟨Ar, cr, rfl⟩ := (own_reads o3 (F := fun _ => True) (fun _ _ => trivial)).slice
    have R3 := Lib.hid o3
    have H3 := Lib.hid (H2.out.keptNo k3)
    have HL3 := Lib.hid (HL2.out.keptNo k3)
    have K3 := Lib.hid (K2.out.thenNo k3)
    have HOK := Lib.hid hok
    have hz3 := k3.size
    clear o3 k3 hok H2 HL2 HR2 K2
    go_wp2_with fail
    go_loopw [9, 10] (fun t9 t10 wr => ∃ k : Nat, k ≤ roots.length ∧ t10 = .int .i64 k ∧ Hid (wr.ownsRow w3.heap.size 3 1 t9 k (ints ((roots.take k).map (at0 is)))) ∧ Hid (Kept No w3 wr)) (fun _ t10 _ => roots.length - (intOf t10).toNat)
    case atStart => exact ⟨0, by omega, rfl, World.ownsRow_nil _ _ _ _, Kept.refl _ _⟩
    case round =>
      obtain ⟨k, hk, rfl, HO, HK⟩ := hrel
      obtain ⟨At, ct, rfl⟩ := (own_reads HO.out (F := fun _ => True) (fun _ _ => trivial)).slice
      have hlk : ((roots.take k).map (at0 is)).length = k := by rw [List.length_map, List.length_take]; omega
      by_cases hlt : k < roots.length
      · have hx : roots[k]? = some roots[k] := List.getElem?_eq_getElem hlt
        have htk : roots.take (k + 1) = roots.take k ++ [roots[k]] := by rw [List.take_add_one, hx]; rfl
        obtain ⟨gr, cr', he, hcr⟩ := row_at (own_kept R3.out HK.out (fun _ _ hn => hn)) rfl hx
        injection he with he _ hc
        subst he hc
        have hri := List.all_eq_true.1 HOK.out _ (List.mem_of_getElem? hx)
        generalize roots[k] = r at *
        have HRes := Lib.hid (resolve_yes (H3.out.keptNo HK.out) HGd.out.acyc r (at0 is r) (HIs.out.is hri))
        obtain ⟨g4, c4, w8, happ, ho4, k4, _⟩ := int_push (v := .slice At k ct) (l := (roots.take k).map (at0 is)) (by rw [hlk]; exact HO.out) HK.out.size (at0 is r) (by rw [hlk]; omega)
        rw [hlk] at happ
        have HO4 : Hid (w8.ownsRow w3.heap.size 3 1 (.slice (some ⟨g4, 0, none⟩) (k + 1) c4) (k + 1) (ints ((roots.take (k + 1)).map (at0 is)))) := by
          show World.ownsRow _ _ _ _ _ _ _
          rw [htk, List.map_append]
          rw [List.length_append, hlk] at ho4
          exact ho4
        have HK4 := Lib.hid (HK.out.trans k4 (fun i hlt hi => by have := (HO.out.lt i hi).1; omega))
        clear ho4 k4 htk hlk hx hri
        go_wp2_with fail
        refine HRes.out.mono ?_
        rintro e w9 ⟨rfl, rfl⟩
        go_wp2_with (at_builtin; refine wpList_append_run rfl (.tmp 51) (.tmp 53) 22 rfl rfl rfl happ ?_; clear happ)
        go_roundw
        case rel => exact ⟨k + 1, by omega, by go_num, HO4, HK4⟩
        case measure => (simp [intOf]; try omega)
      · have hke : k = roots.length := by omega
        subst hke
        rw [List.take_length] at HO
        have H4 := Lib.hid (H3.out.keptNo HK.out)
        have HL4 := Lib.hid (HL3.out.keptNo HK.out)
        have R4 := Lib.hid (own_kept R3.out HK.out (fun _ _ hn => hn))
        have I4 := Lib.hid HO.out
        have K4 := Lib.hid (K3.out.thenNo HK.out)
        have hz4 := HK.out.size
        obtain ⟨w4, hw4⟩ : ∃ w4, w4 = wr := ⟨_, rfl⟩
        subst hw4
        clear HO hlk H3 HL3 R3 K3
        go_wp2_with fail
        refine (collect_any H4.out (HBn.out.le (by omega)) HGd.out (by decide) HIs.out (own_reads R4.out (F := fun k => w2.heap.size ≤ k) (fun k hk => (R4.out.lt k hk).1)) (fun k hk hf => by have := HBn.out k hf; omega) (by omega)).mono ?_
        rintro e w5 ⟨_, hc⟩
        obtain ⟨v5, m, rfl, h5, o5, hm1, hm2, k5⟩ := hc HOK.out
        clear hc
        obtain ⟨keep, hkp⟩ : ∃ keep, keep = keepOf l is roots := ⟨_, rfl⟩
        have hkeep := keepOk_of HGd.out.sane HIs.out HOK.out
        have es : slideOf l is roots = slideAll l keep is := by unfold slideOf; rw [hkp]
        have et : toOf l is roots = roots.map fun r => rankK keep (at0 is r) := by unfold toOf; rw [hkp]
        have hsee : Hid (∀ r ∈ roots, inR l (at0 is r) = true ∧ sees keep (at0 is r) = true) := fun r hr => by
          have hri := List.all_eq_true.1 HOK.out r hr
          rw [hkp]
          exact ⟨HIs.out.inR hri, (keepOf_sees (inR_iff.1 (HIs.out.inR hri))).2 ⟨_, List.mem_map.2 ⟨r, hr, rfl⟩, .refl _⟩⟩
        rw [← hkp] at hkeep
        have HKe := Lib.hid hkeep
        have hsg : Good 4000 (slideAll l keep is) := slide_good HGd.out HIs.out hkeep
        have hsl : Hid ((slideAll l keep is).length = (liveUp keep l.length).length) := slideUp_length _ _ _ _
        have hll := liveUp_le keep l.length
        have HBs := Lib.hid (slide_bisim HGd.out HIs.out hkeep)
        rw [es] at h5 ⊢
        rw [et] at o5
        obtain ⟨A5, c5, rfl⟩ := (own_reads o5 (F := fun _ => True) (fun _ _ => trivial)).slice
        have HSG := Lib.hid hsg
        have H5 := Lib.hid h5
        have B5 : Hid (Bnd (fun k => F1 k ∨ w4.heap.size ≤ k ∧ k < m) w5) := fun k hk => by
          rcases hk with hk | hk
          · have := HBn.out k hk; omega
          · omega
        have T5 := Lib.hid o5
        have R5 := Lib.hid (own_kept R4.out k5 (fun k hk hf => by have := (R4.out.lt k hk).1; have := HBn.out k hf; omega))
        have I5 := Lib.hid (own_kept I4.out k5 (fun k hk hf => by have := (I4.out.lt k hk).1; have := HBn.out k hf; omega))
        have HL5 := Lib.hid (HL4.out.kept k5 (fun k hk hf => by have := hF.out k hf; omega))
        have K5 : Hid (Kept No w w5) := K4.out.trans k5 (fun k hlt hf => by have := hF.out k hf; omega)
        clear h5 o5 k5 hsg es et hkp hkeep H4 HL4 R4 K4 I4
        go_wp2_with fail
        refine (told_law12 H5.out B5.out HSG.out.sane (by rw [hsl.out]; omega)).mono ?_
        rintro e w6 ⟨tv, rfl, h6, k6⟩
        obtain ⟨A6, c6, rfl⟩ := h6.reads.slice
        have HN6 := Lib.hid (h6.reads.mono (fun _ _ _ => trivial) : NodesR w6 (fun _ => True) _ _)
        have T6 := Lib.hid (own_kept T5.out k6 (fun _ _ hn => hn))
        have R6 := Lib.hid (own_kept R5.out k6 (fun _ _ hn => hn))
        have I6 := Lib.hid (own_kept I5.out k6 (fun _ _ hn => hn))
        have HL6 := Lib.hid ((HL5.out.keptNo k6).mono (fun _ _ _ => trivial) : NodesR w6 (fun _ => True) _ _)
        have K6 := Lib.hid (K5.out.thenNo k6)
        clear h6 k6 H5 B5 T5 R5 I5 HL5 K5
        generalize hms : slideAll l keep is = ms at *
        have hml : ms.length ≤ 4000 := by have := hsl.out; omega
        have HMs := Lib.hid hms
        clear hms
        go_wp2_with fail
        go_loopw [18] (fun t18 wr => ∃ k : Nat, k ≤ roots.length ∧ t18 = .int .i64 k ∧ Hid (Kept No w6 wr)) (fun t18 _ => roots.length - (intOf t18).toNat)
        case atStart => exact ⟨0, by omega, rfl, Kept.refl _ _⟩
        case round =>
          obtain ⟨k, hk, rfl, HK⟩ := hrel
          by_cases hlt : k < roots.length
          · have hx : roots[k]? = some roots[k] := List.getElem?_eq_getElem hlt
            obtain ⟨gr, cr', he, hcr⟩ := row_at (own_kept R6.out HK.out (fun _ _ hn => hn)) rfl hx
            injection he with he _ hc
            subst he hc
            have htx : (roots.map fun r => rankK keep (at0 is r))[k]? = some (rankK keep (at0 is roots[k])) := by rw [List.getElem?_map, hx]; rfl
            obtain ⟨gt, ct', he, hct⟩ := row_at (own_kept T6.out HK.out (fun _ _ hn => hn)) (by simp) htx
            injection he with he _ hc
            subst he hc
            have hrm := List.mem_of_getElem? hx
            have hri := List.all_eq_true.1 HOK.out _ hrm
            obtain ⟨hrr, hrs⟩ := hsee.out _ hrm
            obtain ⟨nr, hnr, _⟩ := ndAt_of hrr
            have hIsB : Is ms (rankK keep (at0 is roots[k])) (rankK keep (at0 is roots[k])) := by
              rw [← HMs.out]
              exact .app (slideAll_rank hnr hrs) (HKe.out.app _ nr hnr hrs)
            have hcall := Lib.hid (fun (W : World) (hW : Kept No w6 W) => alike_any (HL6.out.keptNo hW) (HN6.out.keptNo hW) hlen hml HGd.out.acyc HSG.out.acyc HBs.out roots[k] (rankK keep (at0 is roots[k])) (at0 is roots[k]) (rankK keep (at0 is roots[k])) (HIs.out.is hri) hIsB ⟨hrr, hrs, rfl⟩)
            have hI0 : (roots.map (at0 is))[k]? = some (at0 is roots[k]) := by rw [List.getElem?_map, hx]; rfl
            have HI0 := Lib.hid hI0
            have HT0 := Lib.hid htx
            have HRR := Lib.hid hrr
            have HRS := Lib.hid hrs
            generalize roots[k] = r at *
            clear hx htx hrm hri hrr hrs hnr hIsB hI0
            have k1 := Lib.hid ((Kept.refl No wr).drew)
            go_wp2_with fail
            go_region_law (first | (go_simp; go_at_call 49; refine (hcall.out _ (HK.out.drew)).mono ?_; rintro e w7 ⟨rfl, k7⟩))
            all_goals
              have K7 := Lib.hid (HK.out.drew.thenNo k7)
              clear k7
              go_wp2_with fail
              obtain ⟨W8, hW8⟩ : ∃ W8, W8 = wr := ⟨_, rfl⟩
              subst hW8
              go_loopw [20] (fun t20 wx => ∃ j : Nat, j ≤ k ∧ t20 = .int .i64 j ∧ Hid (Kept No w6 wx)) (fun t20 _ => k - (intOf t20).toNat)
              case atStart => exact ⟨0, Nat.zero_le _, rfl, K7⟩
              case round =>
                obtain ⟨j, hj, rfl, HKJ⟩ := hrel
                by_cases hlt2 : j < k
                · have hx : roots[j]? = some (roots[j]'(by omega)) := List.getElem?_eq_getElem (by omega)
                  have hIj : (roots.map (at0 is))[j]? = some (at0 is (roots[j]'(by omega))) := by rw [List.getElem?_map, hx]; rfl
                  have hTj : (roots.map fun r => rankK keep (at0 is r))[j]? = some (rankK keep (at0 is (roots[j]'(by omega)))) := by rw [List.getElem?_map, hx]; rfl
                  obtain ⟨hrr2, hrs2⟩ := hsee.out _ (List.mem_of_getElem? hx)
                  have hinj := rank_inj HRR.out hrr2 HRS.out hrs2
                  have hIk := own_kept I6.out HKJ.out (fun _ _ hn => hn)
                  have hTk := own_kept T6.out HKJ.out (fun _ _ hn => hn)
                  obtain ⟨gi, ci', he, e1⟩ := row_at hIk (by simp) HI0.out
                  injection he with he _ hc
                  subst he hc
                  obtain ⟨gi2, ci2, he, e2⟩ := row_at hIk (by simp) hIj
                  injection he with he _ hc
                  injection he with he
                  injection he with he
                  subst he hc
                  obtain ⟨gt2, ct2, he, e3⟩ := row_at hTk (by simp) HT0.out
                  injection he with he _ hc
                  injection he with he
                  injection he with he
                  subst he hc
                  obtain ⟨gt3, ct3, he, e4⟩ := row_at hTk (by simp) hTj
                  injection he with he _ hc
                  injection he with he
                  injection he with he
                  subst he hc
                  generalize at0 is (roots[j]'(by omega)) = bj at *
                  generalize at0 is r = ar at *
                  have hb : (!((ar == bj) == (rankK keep ar == rankK keep bj))) = false := by
                    have : (ar == bj) = (rankK keep ar == rankK keep bj) := by
                      rw [Bool.eq_iff_iff]
                      simpa using hinj
                    rw [this]; simp
                  have i1 : (0 : Int) ≤ (k : Int) := by omega
                  have i2 : (0 : Int) ≤ (j : Int) := by omega
                  have i3 : (k : Int) < (roots.length : Int) := by omega
                  have i4 : (j : Int) < (roots.length : Int) := by omega
                  clear hx hIj hTj hrr2 hrs2 hinj hIk hTk
                  go_wp2_with fail
                  go_quiet (fail)
                  go_wp2_with fail
                  go_roundw
                  case rel => exact ⟨j + 1, by omega, by go_num, HKJ.out.drewN _⟩
                  case measure => (simp [intOf]; try omega)
                · have hje : j = k := by omega
                  subst hje
                  go_wp2_with fail
                  go_roundw
                  case rel => exact ⟨j + 1, by omega, by go_num, HKJ⟩
                  case measure => (simp [intOf]; try omega)
          · have hke : k = roots.length := by omega
            subst hke
            have fin := Lib.hid (K6.out.thenNo HK.out)
            go_wp2_with fail
            go_ret
            exact ⟨rfl, fin.out⟩
  · obtain ⟨rfl, k2⟩ := hno hg
    have fin := Lib.hid (K1.out.thenNo k2)
    clear hno hyes k2
    go_wp2_with fail
    go_ret
    exact ⟨rfl, fin.out⟩
end Go.Proofs.Ytooalgnppnmeaaa
