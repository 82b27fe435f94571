/- SlideLives: the walk. -/
import Derived.Test.YtooalgnppnmeaaaMade
import Derived.Test.YtooalgnppnmeaaaRLive
import Derived.Test.YtooalgnppnmeaaaL11d
import Derived.Test.YtooalgnppnmeaaaS2
namespace Go.Proofs.Ytooalgnppnmeaaa
open Go.RowKit

theorem short_good {room : Int} {ns : List Nd} (h : Good room ns) (hr : room ≤ 4000) : Short ns := ⟨by have := h.len; omega, fun n hn => by have := (h.may n hn).2.1; omega⟩
theorem liveOf_le (ns : List Nd) (is roots : List Int) : (liveOf ns is roots).length ≤ ns.length := by
  unfold liveOf
  split
  · unfold liveK
    rw [keepOf_length]
    exact liveUp_le _ _
  · simp

set_option maxRecDepth 100000 in
set_option maxHeartbeats 4000000 in
theorem slideLives_any (v0 : Value) (l : List Nd) (v1 : Value) (roots : List Int) (w : World) (hl : NodesR w (fun _ => True) v0 l) (hB : Bulk l) (hr : RowR w 1 (fun _ => True) v1 roots.length (ints roots)) (_hI : ∀ x ∈ roots, I64 x) (hsz : roots.length ≤ 1048576) :
    Calls Try.prog 11 #[v0, v1] w (RetYes w) := by
  obtain ⟨A0, c0, rfl⟩ := hl.slice
  obtain ⟨A1, c1, rfl⟩ := hr.slice
  have HL := Lib.hid (hl.mono (fun _ _ h => h) : NodesR w (fun k => k < w.heap.size) _ l)
  have HRr := Lib.hid (hr.mono (fun _ _ h => h) : RowR w 1 (fun k => k < w.heap.size) _ roots.length (ints roots))
  have HB := Lib.hid hB
  clear hl hr hB _hI
  go_enter Try.func11, Try.ntmps11
  go_wp2_with fail
  refine (awake12_any _).mono ?_
  rintro e w1 ⟨rfl, k1⟩
  have K1 := Lib.hid k1
  have HL1 := Lib.hid (HL.out.keptNo k1)
  have HR1 := Lib.hid (HRr.out.keptNo k1)
  have hz1 := k1.size
  clear k1 HL HRr
  go_wp2_with fail
  refine (made_any HL1.out HB.out).mono ?_
  rintro e w2 ⟨hno, hyes⟩
  by_cases hg : Good 4000 l
  · obtain ⟨hb, rb, F1, F2, rfl, b2, hf1, hf2, k2⟩ := hyes hg
    have hlen : l.length ≤ 4000 := by have := hg.len; omega
    obtain ⟨is, his⟩ := IsL.exists_ hg.sane hg.acyc
    have HGd := Lib.hid hg
    have HIs := Lib.hid his
    have B2 := Lib.hid b2
    have K2 := Lib.hid (K1.out.thenNo k2)
    have HR2 := Lib.hid (HR1.out.keptNo k2)
    have hz2 := k2.size
    clear hno hyes hg his b2 hf1 hf2 k2 HL1 HR1 K1
    go_wp2_with fail
    refine (lent_law12 _ _ roots _ (by omega) HR2.out).mono ?_
    rintro e w3 ⟨tv, rfl, ht, k3⟩
    have htr := ht.reads
    obtain ⟨At, ct, rfl⟩ := htr.slice
    have hte : Hid (∀ k, (Value.slice At roots.length ct).ownBlock = some k → w2.heap.size ≤ k ∧ k < w3.heap.size) := fun k hk => by
      obtain ⟨g, c, e, hgb, ho⟩ := ht
      injection e with e1 _ e3
      subst e1
      have hk' : g = k := by simpa [Value.ownBlock] using hk
      subst hk'
      exact ⟨hgb, (ho.lt g (by simp [Value.ownBlock])).2⟩
    have HT3 := Lib.hid ht
    have HTr := Lib.hid htr
    have B3 := Lib.hid (B2.out.keptNo k3)
    have HR3 := Lib.hid (HR2.out.keptNo k3)
    have K3 := Lib.hid (K2.out.thenNo k3)
    have hz3 := k3.size
    clear k3 ht htr HR2 K2
    go_wp2_with fail
    refine (live_any B3.out.h HGd.out.sane HGd.out.acyc hlen HIs.out HTr.out (by omega)).mono ?_
    rintro e w4 ⟨av, rfl, o4, k4⟩
    have hll := liveOf_le l is roots
    obtain ⟨A4, c4, rfl⟩ := (own_reads o4 (F := fun _ => True) (fun _ _ => trivial)).slice
    have K4 := Lib.hid (K3.out.thenNo k4)
    have B4 := Lib.hid (B3.out.keptNo k4)
    have T4 := Lib.hid (HTr.out.keptNo k4)
    have K34 := Lib.hid k4
    have O4 := Lib.hid o4
    have hit := Lib.hid (fun k hk => o4.lt k hk : ∀ k, (Value.slice A4 (liveOf l is roots).length c4).ownBlock = some k → w3.heap.size ≤ k ∧ k < w4.heap.size)
    have hz4 := k4.size
    clear o4 k4 K3
    go_wp2_with fail
    refine (live_any B4.out.h HGd.out.sane HGd.out.acyc hlen HIs.out T4.out (by omega)).mono ?_
    rintro e w5 ⟨bv, rfl, o5, k5⟩
    obtain ⟨A5, c5, rfl⟩ := (own_reads o5 (F := fun _ => True) (fun _ _ => trivial)).slice
    have K5 := Lib.hid (K4.out.thenNo k5)
    have B5 := Lib.hid (B4.out.keptNo k5)
    have K35 := Lib.hid (K34.out.thenNo k5)
    have O45 := Lib.hid (own_kept O4.out k5 (fun _ _ hn => hn))
    have O5 := Lib.hid o5
    have hz5 := k5.size
    clear o5 k5 K4 K34 O4 B4 T4
    go_wp2_with fail
    refine (rlive_any B5.out.r HGd.out.sane hlen HIs.out (HR3.out.keptNo K35.out) (by omega)).mono ?_
    rintro e w6 ⟨cv, rfl, o6, k6⟩
    obtain ⟨A6, c6, rfl⟩ := (own_reads o6 (F := fun _ => True) (fun _ _ => trivial)).slice
    have K6 := Lib.hid (K5.out.thenNo k6)
    have B6 := Lib.hid (B5.out.keptNo k6)
    have K36 := Lib.hid (K35.out.thenNo k6)
    have O46 := Lib.hid (own_kept O45.out k6 (fun _ _ hn => hn))
    have O56 := Lib.hid (own_kept O5.out k6 (fun _ _ hn => hn))
    have O6 := Lib.hid o6
    have hz6 := k6.size
    clear o6 k6 K5 K35 O45 O5 B5
    generalize liveOf l is roots = lv at *
    generalize errOf l roots = er at *
    go_wp2_with fail
    have s1 := own_reads O46.out (F := fun _ => True) (fun _ _ => trivial)
    have s2 := own_reads O6.out (F := fun _ => True) (fun _ _ => trivial)
    refine (sameInts_any s1 s2 (by omega) (by omega)).mono ?_
    rintro e w7 ⟨rfl, k7⟩
    rw [decide_eq_true rfl]
    have K7 := Lib.hid (K6.out.thenNo k7)
    have B7 := Lib.hid (B6.out.keptNo k7)
    have K37 := Lib.hid (K36.out.thenNo k7)
    have Oa := Lib.hid (own_kept O46.out k7 (fun _ _ hn => hn))
    have Ob := Lib.hid (own_kept O56.out k7 (fun _ _ hn => hn))
    have Oc := Lib.hid (own_kept O6.out k7 (fun _ _ hn => hn))
    have hz7 := k7.size
    clear s1 s2 k7 K6 K36 O46 O56 O6 B6
    go_wp2_with fail
    go_loopw [16] (fun t16 wr => ∃ (k : Nat) (xs : List Int), k ≤ lv.length ∧ t16 = .int .i64 k ∧ Hid (wr.ownsRow w3.heap.size 3 1 (.slice A4 lv.length c4) lv.length (ints xs)) ∧ Hid (Kept (Its (.slice A4 lv.length c4)) w7 wr)) (fun t16 _ => lv.length - (intOf t16).toNat)
    case atStart => exact ⟨0, lv, by omega, rfl, Oa, Kept.refl _ _⟩
    case round =>
      obtain ⟨k, xs, hk, rfl, HO, HK⟩ := hrel
      by_cases hlt : k < lv.length
      · obtain ⟨g, c', u, he, hu, hcu, hfu, _⟩ := own_get HO.out hlt
        injection he with he _ hc
        subst he hc
        obtain ⟨st1, st2⟩ := HO.out.stored k (.int .i64 (-3))
        rw [ints_set] at st1
        have ST := Lib.hid st1
        have HK2 := Lib.hid (HK.out.grown st2 (fun j hj _ => by injection hj with hj; subst hj; rfl))
        clear st1 st2 hu
        go_wp2_with fail
        go_roundw
        case rel => exact ⟨k + 1, _, by omega, by go_num, ST, HK2⟩
        case measure => (simp [intOf]; try omega)
      · have hke : k = lv.length := by omega
        subst hke
        have pb := own_kept Ob.out HK.out (fun i hi hj => by have := hit.out i hj; have := (Ob.out.lt i hi).1; omega)
        have pc := own_kept Oc.out HK.out (fun i hi hj => by have := hit.out i hj; have := (Oc.out.lt i hi).1; omega)
        have s1 := own_reads pb (F := fun _ => True) (fun _ _ => trivial)
        have s2 := own_reads pc (F := fun _ => True) (fun _ _ => trivial)
        have BB := Lib.hid (B7.out.kept HK.out (fun i h1 h2 => by have := hit.out i h2; have := B3.out.b1 i h1; omega) (fun i h1 h2 => by have := hit.out i h2; have := B3.out.b2 i h1; omega))
        have TT := Lib.hid ((HT3.out.kept K37.out (fun _ _ hn => hn)).kept HK.out (fun i h1 h2 => by have := hit.out i h2; have := hte.out i h1; omega))
        have RR := Lib.hid ((HR3.out.keptNo K37.out).kept HK.out (fun i h1 h2 => by have := hit.out i h2; omega))
        have KK : Hid (Kept No w wr) := K7.out.trans HK.out (fun i hlt hi => by have := hit.out i hi; omega)
        clear pb pc
        go_wp2_with fail
        refine (sameInts_any s1 s2 (by omega) (by omega)).mono ?_
        rintro e w8 ⟨rfl, k8⟩
        rw [decide_eq_true rfl]
        have B8 := Lib.hid (BB.out.keptNo k8)
        have T8 := Lib.hid (TT.out.kept k8 (fun _ _ hn => hn))
        have R8 := Lib.hid (RR.out.keptNo k8)
        have K8 := Lib.hid (KK.out.thenNo k8)
        clear k8 s1 s2 BB TT RR KK
        go_wp2_with fail
        refine (held_law12 T8.out R8.out (by omega) (fun i h1 h2 => by have := hte.out i h1; omega)).mono ?_
        rintro e w9 ⟨rfl, k9⟩
        have B9 := Lib.hid (B8.out.kept k9 (fun i h1 h2 => by have := hte.out i h2; have := B2.out.b1 i h1; omega) (fun i h1 h2 => by have := hte.out i h2; have := B2.out.b2 i h1; omega))
        have K9 : Hid (Kept No w w9) := K8.out.trans k9 (fun i hlt hi => by have := hte.out i hi; omega)
        clear k9 B8 T8 R8 K8
        go_wp2_with fail
        refine (told_law12 B9.out.h B9.out.b1 HGd.out.sane hlen).mono ?_
        rintro e wa ⟨nv, rfl, ha, ka⟩
        obtain ⟨Aa, ca, rfl⟩ := ha.reads.slice
        have HNa := Lib.hid ha.reads
        have Ba := Lib.hid (B9.out.keptNo ka)
        have Ka := Lib.hid (K9.out.thenNo ka)
        clear ha ka B9 K9
        obtain ⟨Ar, cr, _, hrl, _, z1, _, hnr⟩ := Ba.out.r.open_
        have HNr := Lib.hid hnr.reads
        have hsh := Lib.hid (short_good HGd.out (by decide))
        clear hnr
        go_wp2_with fail
        refine (sameNodes_any HNa.out HNr.out hsh.out hsh.out).mono ?_
        rintro e wb ⟨rfl, kb⟩
        rw [decide_eq_true rfl]
        have fin := Lib.hid (Ka.out.thenNo kb)
        clear kb z1
        go_wp2_with fail
        go_ret
        exact ⟨by simp, fin.out⟩
  · obtain ⟨rfl, k2⟩ := hno hg
    have fin := Lib.hid (K1.out.thenNo k2)
    clear hno hyes k2
    go_wp2_with fail
    go_ret
    exact ⟨rfl, fin.out⟩
end Go.Proofs.Ytooalgnppnmeaaa
