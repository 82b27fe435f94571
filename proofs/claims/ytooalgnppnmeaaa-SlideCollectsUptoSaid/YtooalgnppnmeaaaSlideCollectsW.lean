/- SlideCollects: the walk. -/
import Derived.Test.YtooalgnppnmeaaaMade
import Derived.Test.YtooalgnppnmeaaaRCollect
import Derived.Test.YtooalgnppnmeaaaL11d
import Derived.Test.YtooalgnppnmeaaaS2
import Derived.BigQuiet
namespace Go.Proofs.Ytooalgnppnmeaaa
open Go.RowKit

theorem short_good2 {room : Int} {ns : List Nd} (h : Good room ns) (hr : room ≤ 4000) : Short ns := ⟨by have := h.len; omega, fun n hn => by have := (h.may n hn).2.1; omega⟩
noncomputable def colXs (ns : List Nd) (is roots : List Int) : List Int := if okRoots ns roots = true then toOf ns is roots else []
noncomputable def colNs (ns : List Nd) (is roots : List Int) : List Nd := if okRoots ns roots = true then slideOf ns is roots else ns
theorem colNs_good {room : Int} {ns : List Nd} {is roots : List Int} (hg : Good room ns) (hi : IsL ns is) : Good room (colNs ns is roots) := by
  unfold colNs
  split
  · rename_i h; exact slide_good hg hi (keepOk_of hg.sane hi h)
  · exact hg
theorem colXs_le (ns : List Nd) (is roots : List Int) : (colXs ns is roots).length ≤ roots.length := by
  unfold colXs
  split
  · simp [toOf]
  · simp
theorem collect_u {F G : Nat → Prop} {hb : Nat} {room : Int} {v : Value} {ns : List Nd} {is roots : List Int} {w : World} (h : HeapO w F hb room ns) (hB : Bnd F w) (hg : Good room ns) (hroom : room ≤ 4000) (hi : IsL ns is) (hv : RowR w 1 G v roots.length (ints roots)) (hd : ∀ k, G k → ¬ F k) (hsz : roots.length ≤ 2000000) :
    Calls Try.prog 46 #[.pointer (some ⟨hb, 0, none⟩), v] w (fun e w' => ∃ v m, e = .returned (.tuple #[v, .int .i64 ((ns.length : Int) - (colNs ns is roots).length), .int .i64 (errOf ns roots)]) ∧ HeapO w' (fun k => F k ∨ (w.heap.size ≤ k ∧ k < m)) hb room (colNs ns is roots) ∧
      w'.ownsRow m 3 1 v (colXs ns is roots).length (ints (colXs ns is roots)) ∧ w.heap.size ≤ m ∧ m ≤ w'.heap.size ∧ Kept F w w') := by
  refine (collect_any h hB hg hroom hi hv hd hsz).mono ?_
  rintro e w' ⟨h0, h1⟩
  cases hok : okRoots ns roots with
  | false =>
    obtain ⟨rfl, k⟩ := h0 hok
    refine ⟨.slice none 0 0, w'.heap.size, ?_, ?_, ?_, k.size, Nat.le_refl _, k.all⟩
    · simp [colNs, errOf, hok]
    · simp only [colNs, hok]
      exact (h.keptNo k).mono (fun b hb _ => .inl hb)
    · simp only [colXs, hok]
      exact World.ownsRow_nil _ _ _ _
  | true =>
    obtain ⟨v, m, rfl, a1, a2, a3, a4, a5⟩ := h1 hok
    refine ⟨v, m, ?_, ?_, ?_, a3, a4, a5⟩
    · simp [colNs, errOf, hok]
    · simp only [colNs, hok]; exact a1
    · simp only [colXs, hok, if_true, toOf, List.length_map]; exact a2
theorem rcollect_u {F G : Nat → Prop} {hb : Nat} {room : Int} {v : Value} {ns : List Nd} {is roots : List Int} {w : World} (h : RHeapO w F hb room ns) (hB : Bnd F w) (hg : Good room ns) (hroom : room ≤ 4000) (hi : IsL ns is) (hv : RowR w 1 G v roots.length (ints roots)) (hsz : roots.length ≤ 2000000) :
    Calls Try.prog 47 #[.pointer (some ⟨hb, 0, none⟩), v] w (fun e w' => ∃ v, e = .returned (.tuple #[v, .int .i64 ((ns.length : Int) - (colNs ns is roots).length), .int .i64 (errOf ns roots)]) ∧ RHeapO w' (Grow F w w') hb room (colNs ns is roots) ∧
      RowR w' 1 (fun _ => True) v (colXs ns is roots).length (ints (colXs ns is roots)) ∧ Kept F w w') := by
  refine (rcollect_any h hB hg hroom hi hv hsz).mono ?_
  rintro e w' ⟨h0, h1⟩
  cases hok : okRoots ns roots with
  | false =>
    obtain ⟨rfl, k⟩ := h0 hok
    refine ⟨.slice none 0 0, ?_, ?_, ?_, k.all⟩
    · simp [colNs, errOf, hok]
    · simp only [colNs, hok]
      exact (h.keptNo k).mono (fun b hb _ => .inl hb)
    · simp only [colXs, hok]
      exact RowR.nil _ _ _
  | true =>
    obtain ⟨v, rfl, a1, a2, a3⟩ := h1 hok
    refine ⟨v, ?_, ?_, ?_, a3⟩
    · simp [colNs, errOf, hok]
    · simp only [colNs, hok]; exact a1
    · simp only [colXs, hok, if_true, toOf, List.length_map]; exact a2

set_option maxRecDepth 100000 in
set_option maxHeartbeats 4000000 in
theorem slideCollects_any (v0 : Value) (l : List Nd) (v1 : Value) (roots : List Int) (v2 : Value) (more : List Int) (w : World) (hl : NodesR w (fun _ => True) v0 l) (hB : Bulk l) (hr : RowR w 1 (fun _ => True) v1 roots.length (ints roots)) (_hI : ∀ x ∈ roots, I64 x) (hsz : roots.length ≤ 1048576)
    (hm : RowR w 1 (fun _ => True) v2 more.length (ints more)) (_hI2 : ∀ x ∈ more, I64 x) (hsz2 : more.length ≤ 1048576) :
    Calls Try.prog 12 #[v0, v1, v2] w (RetYes w) := by
  obtain ⟨A0, c0, rfl⟩ := hl.slice
  obtain ⟨A1, c1, rfl⟩ := hr.slice
  obtain ⟨A2, c2, rfl⟩ := hm.slice
  have HL := Lib.hid (hl.mono (fun _ _ h => h) : NodesR w (fun k => k < w.heap.size) _ l)
  have HRr := Lib.hid (hr.mono (fun _ _ h => h) : RowR w 1 (fun k => k < w.heap.size) _ roots.length (ints roots))
  have HMr := Lib.hid (hm.mono (fun _ _ h => h) : RowR w 1 (fun k => k < w.heap.size) _ more.length (ints more))
  have HB := Lib.hid hB
  clear hl hr hm hB _hI _hI2
  go_enter Try.func12, Try.ntmps12
  go_wp2_with fail
  refine (awake12_any _).mono ?_
  rintro e w1 ⟨rfl, k1⟩
  have K1 := Lib.hid k1
  have HL1 := Lib.hid (HL.out.keptNo k1)
  have hz1 := k1.size
  clear k1 HL
  go_wp2_with fail
  refine (made_any HL1.out HB.out).mono ?_
  rintro e w2 ⟨hno, hyes⟩
  by_cases hg : Good 4000 l
  · obtain ⟨hb, rb, F1, F2, rfl, b2, hf1, hf2, k2⟩ := hyes hg
    have B0 := Lib.hid b2
    have G0 := Lib.hid hg
    have X1 : Hid (∀ k, F1 k → w.heap.size ≤ k) := fun k hk => Nat.le_trans hz1 (hf1 k hk)
    have X2 : Hid (∀ k, F2 k → w.heap.size ≤ k) := fun k hk => Nat.le_trans hz1 (hf2 k hk)
    have K2 := Lib.hid (K1.out.thenNo k2)
    clear hno hyes hg b2 hf1 hf2 k2 HL1 K1
    go_wp2_with fail
    go_loopw [10] (fun t10 wr => ∃ (k : Nat) (ns : List Nd) (F1 F2 : Nat → Prop), k ≤ 2 ∧ t10 = .int .i64 k ∧ Hid (Both wr F1 F2 hb rb 4000 ns ns) ∧ Hid (Good 4000 ns) ∧ Hid (∀ k, F1 k → w.heap.size ≤ k) ∧ Hid (∀ k, F2 k → w.heap.size ≤ k) ∧ Hid (Kept No w wr)) (fun t10 _ => 2 - (intOf t10).toNat)
    case atStart => exact ⟨0, l, F1, F2, by omega, rfl, B0, G0, X1, X2, K2⟩
    case round =>
      clear B0 G0 X1 X2 K2
      obtain ⟨k, ns, F1, F2, hk, rfl, B0, G0, X1, X2, K2⟩ := hrel
      obtain ⟨is, his⟩ := IsL.exists_ G0.out.sane G0.out.acyc
      have HIs := Lib.hid his
      have hlen : ns.length ≤ 4000 := by have := G0.out.len; omega
      have hz2 := K2.out.size
      clear his
      have hk3 : k = 0 ∨ k = 1 ∨ k = 2 := by omega
      rcases hk3 with rfl | rfl | rfl
      · go_wp2_with fail
        refine (lent_law12 _ _ roots _ (by omega) (HRr.out.keptNo K2.out)).mono ?_
        rintro e w3 ⟨tv, rfl, ht, k3⟩
        have htr := ht.reads
        obtain ⟨At, ct, rfl⟩ := htr.slice
        have hte : Hid (∀ k, (Value.slice At roots.length ct).ownBlock = some k → wr.heap.size ≤ k ∧ k < w3.heap.size) := fun k hk => by
          obtain ⟨g, c, e, hgb, ho⟩ := ht
          injection e with e1 _ e3
          subst e1
          have hk' : g = k := by simpa [Value.ownBlock] using hk
          subst hk'
          exact ⟨hgb, (ho.lt g (by simp [Value.ownBlock])).2⟩
        have HT3 := Lib.hid ht
        have HTr := Lib.hid htr
        have B3 := Lib.hid (B0.out.keptNo k3)
        have K3 := Lib.hid (K2.out.thenNo k3)
        have hz3 := k3.size
        clear k3 ht htr
        go_wp2_with fail
        refine (collect_u B3.out.h B3.out.b1 G0.out (by decide) HIs.out HTr.out (fun i h1 h2 => by have := hte.out i h1; have := B0.out.b1 i h2; omega) (by omega)).mono ?_
        rintro e w5 ⟨av, m, rfl, h5, o5, hm1, hm2, k5⟩
        have hgn : Good 4000 (colNs ns is roots) := colNs_good G0.out HIs.out
        have hxl := colXs_le ns is roots
        obtain ⟨A5, c5, rfl⟩ := (own_reads o5 (F := fun _ => True) (fun _ _ => trivial)).slice
        have R5 := B3.out.r.kept k5 (fun i h1 h2 => B3.out.d i h2 h1)
        have K5 : Hid (Kept No w w5) := K3.out.trans k5 (fun i hlt hi => by have := X1.out i hi; omega)
        have T5 := Lib.hid (HT3.out.kept k5 (fun i h1 h2 => by have := hte.out i h1; have := B0.out.b1 i h2; omega))
        have hz5 := k5.size
        have b25 : Bnd F2 w5 := B3.out.b2.le hz5
        clear k5
        go_wp2_with fail
        refine (rcollect_u R5 b25 G0.out (by decide) HIs.out (HRr.out.keptNo K5.out) (by omega)).mono ?_
        rintro e w6 ⟨bv, rfl, h6, o6, k6⟩
        obtain ⟨A6, c6, rfl⟩ := o6.slice
        have hz6 := k6.size
        have B6 : Hid (Both w6 (fun i => F1 i ∨ (w3.heap.size ≤ i ∧ i < m)) (Grow F2 w5 w6) hb rb 4000 (colNs ns is roots) (colNs ns is roots)) :=
          ⟨h5.kept k6 (fun i h1 h2 => by
            rcases h1 with h1 | h1
            · exact B0.out.d i h1 h2
            · have := B3.out.b2 i h2; omega), h6, fun i h1 h2 => by
            rcases h1 with h1 | h1 <;> rcases h2 with h2 | h2
            · exact B0.out.d i h1 h2
            · have := B3.out.b1 i h1; omega
            · have := B3.out.b2 i h2; omega
            · omega, fun i h1 => by
            rcases h1 with h1 | h1
            · have := B3.out.b1 i h1; omega
            · omega, b25.grow hz6⟩
        have O56 := Lib.hid (own_kept o5 k6 (fun i h1 h2 => by have := (o5.lt i h1).1; have := B3.out.b2 i h2; omega))
        have hit := Lib.hid (fun i hi => o5.lt i hi : ∀ i, (Value.slice A5 (colXs ns is roots).length c5).ownBlock = some i → m ≤ i ∧ i < w5.heap.size)
        have O6 := Lib.hid o6
        have K6 : Hid (Kept No w w6) := K5.out.trans k6 (fun i hlt hi => by have := X2.out i hi; omega)
        have T6 := Lib.hid (T5.out.kept k6 (fun i h1 h2 => by have := hte.out i h1; have := B0.out.b2 i h2; omega))
        have HGn := Lib.hid hgn
        have hlenN : (colNs ns is roots).length ≤ 4000 := by have := hgn.len; omega
        have X1' : Hid (∀ i, (F1 i ∨ (w3.heap.size ≤ i ∧ i < m)) → w.heap.size ≤ i) := fun i hi => by
          rcases hi with hi | hi
          · exact X1.out i hi
          · omega
        have X2' : Hid (∀ i, Grow F2 w5 w6 i → w.heap.size ≤ i) := fun i hi => by
          rcases hi with hi | hi
          · exact X2.out i hi
          · omega
        clear h5 o5 h6 o6 k6 R5 b25 hgn T5 K5 K3 HT3 HTr
        generalize colNs ns is roots = ms at *
        generalize colXs ns is roots = xs at *
        generalize errOf ns roots = er at *
        generalize hnn : (ns.length : Int) - (ms.length : Int) = nn at *
        clear hnn
        go_wp2_with fail
        have s1 := own_reads O56.out (F := fun _ => True) (fun _ _ => trivial)
        refine (sameInts_any s1 O6.out (by omega) (by omega)).mono ?_
        rintro e w7 ⟨rfl, k7⟩
        rw [decide_eq_true rfl]
        have K7 := Lib.hid (K6.out.thenNo k7)
        have B7 := Lib.hid (B6.out.keptNo k7)
        have T7 := Lib.hid (T6.out.kept k7 (fun _ _ hn => hn))
        have Oa := Lib.hid (own_kept O56.out k7 (fun _ _ hn => hn))
        have hz7 := k7.size
        clear s1 k7 K6 B6 T6 O56 O6
        go_wp2_with fail
        go_loopw [20] (fun t20 wx => ∃ (j : Nat) (ys : List Int), j ≤ xs.length ∧ t20 = .int .i64 j ∧ Hid (wx.ownsRow m 3 1 (.slice A5 xs.length c5) xs.length (ints ys)) ∧ Hid (Kept (Its (.slice A5 xs.length c5)) w7 wx)) (fun t20 _ => xs.length - (intOf t20).toNat)
        case atStart => exact ⟨0, xs, by omega, rfl, Oa, Kept.refl _ _⟩
        case round =>
          obtain ⟨j, ys, hj, rfl, HO, HK⟩ := hrel
          by_cases hlt : j < xs.length
          · obtain ⟨g, c', u, he, hu, hcu, hfu, _⟩ := own_get HO.out hlt
            injection he with he _ hc
            subst he hc
            obtain ⟨st1, st2⟩ := HO.out.stored j (.int .i64 (-3))
            rw [ints_set] at st1
            have ST := Lib.hid st1
            have HK2 := Lib.hid (HK.out.grown st2 (fun j hj _ => by injection hj with hj; subst hj; rfl))
            clear st1 st2 hu
            go_wp2_with fail
            go_roundw
            case rel => exact ⟨j + 1, _, by omega, by go_num, ST, HK2⟩
            case measure => (simp [intOf]; try omega)
          · have hje : j = xs.length := by omega
            subst hje
            have BB := Lib.hid (B7.out.kept HK.out (fun i h1 h2 => by
              have := hit.out i h2
              rcases h1 with h1 | h1
              · have := B3.out.b1 i h1; omega
              · omega) (fun i h1 h2 => by
              have := hit.out i h2
              rcases h1 with h1 | h1
              · have := B3.out.b2 i h1; omega
              · omega))
            have TT := Lib.hid (T7.out.kept HK.out (fun i h1 h2 => by have := hit.out i h2; have := hte.out i h1; omega))
            have KK : Hid (Kept No w wr) := K7.out.trans HK.out (fun i hlt hi => by have := hit.out i hi; omega)
            have RR := Lib.hid (HRr.out.keptNo KK.out)
            clear B7 T7 K7 HK HO Oa
            go_wp2_with fail
            refine (held_law12 TT.out RR.out (by omega) (fun i h1 h2 => by have := hte.out i h1; omega)).mono ?_
            rintro e w9 ⟨rfl, k9⟩
            have B9 := Lib.hid (BB.out.kept k9 (fun i h1 h2 => by
              have := hte.out i h2
              rcases h1 with h1 | h1
              · have := B0.out.b1 i h1; omega
              · omega) (fun i h1 h2 => by
              have := hte.out i h2
              rcases h1 with h1 | h1
              · have := B0.out.b2 i h1; omega
              · omega))
            have K9 : Hid (Kept No w w9) := KK.out.trans k9 (fun i hlt hi => by have := hte.out i hi; omega)
            clear k9 BB TT RR KK
            go_wp2_with fail
            refine (told_law12 B9.out.h B9.out.b1 HGn.out.sane hlenN).mono ?_
            rintro e wa ⟨nv, rfl, ha, ka⟩
            obtain ⟨Aa, ca, rfl⟩ := ha.reads.slice
            have HNa := Lib.hid ha.reads
            have Ba := Lib.hid (B9.out.keptNo ka)
            have Ka := Lib.hid (K9.out.thenNo ka)
            clear ha ka B9 K9
            obtain ⟨Ar, cr, _, hrl, _, z1, _, hnr⟩ := Ba.out.r.open_
            have HNr := Lib.hid hnr.reads
            have hsh := Lib.hid (short_good2 HGn.out (by decide))
            clear hnr
            go_wp2_with fail
            refine (sameNodes_any HNa.out HNr.out hsh.out hsh.out).mono ?_
            rintro e wb ⟨rfl, kb⟩
            rw [decide_eq_true rfl]
            have Kb := Lib.hid (Ka.out.thenNo kb)
            have Bb := Lib.hid (Ba.out.keptNo kb)
            clear kb z1 Ka Ba HNa HNr
            obtain ⟨_, _, _, hrl2, _, z2, _, _⟩ := Bb.out.r.open_
            have hq : Hid (∀ W : World, Kept No wb W → Calls Try.prog 24 #[.pointer (some ⟨hb, 0, none⟩)] W fun e w' => e = .returned (.int .i64 ms.length) ∧ w' = W) := fun W hW => (used_any (Bb.out.h.keptNo hW)).mono fun _ _ h => ⟨h.1, h.2.symm⟩
            go_wp2_with fail
            go_quiet ((go_at_call 24; first | exact Calls.quiet_of_same (hq.out _ (Kept.refl _ _)) | exact Calls.quiet_of_same (hq.out _ ((Kept.refl _ _).drewN _))))
            go_wp2_with fail
            go_roundw
            case rel => exact ⟨0 + 1, ms, _, _, by omega, by go_num, Bb.out.keptNo ((Kept.refl No wb).drewN _), HGn, X1', X2', Kb.out.drewN _⟩
            case measure => (simp [intOf]; try omega)
      · go_wp2_with fail
        refine (lent_law12 _ _ more _ (by omega) (HMr.out.keptNo K2.out)).mono ?_
        rintro e w3 ⟨tv, rfl, ht, k3⟩
        have htr := ht.reads
        obtain ⟨At, ct, rfl⟩ := htr.slice
        have hte : Hid (∀ k, (Value.slice At more.length ct).ownBlock = some k → wr.heap.size ≤ k ∧ k < w3.heap.size) := fun k hk => by
          obtain ⟨g, c, e, hgb, ho⟩ := ht
          injection e with e1 _ e3
          subst e1
          have hk' : g = k := by simpa [Value.ownBlock] using hk
          subst hk'
          exact ⟨hgb, (ho.lt g (by simp [Value.ownBlock])).2⟩
        have HT3 := Lib.hid ht
        have HTr := Lib.hid htr
        have B3 := Lib.hid (B0.out.keptNo k3)
        have K3 := Lib.hid (K2.out.thenNo k3)
        have hz3 := k3.size
        clear k3 ht htr
        go_wp2_with fail
        refine (collect_u B3.out.h B3.out.b1 G0.out (by decide) HIs.out HTr.out (fun i h1 h2 => by have := hte.out i h1; have := B0.out.b1 i h2; omega) (by omega)).mono ?_
        rintro e w5 ⟨av, m, rfl, h5, o5, hm1, hm2, k5⟩
        have hgn : Good 4000 (colNs ns is more) := colNs_good G0.out HIs.out
        have hxl := colXs_le ns is more
        obtain ⟨A5, c5, rfl⟩ := (own_reads o5 (F := fun _ => True) (fun _ _ => trivial)).slice
        have R5 := B3.out.r.kept k5 (fun i h1 h2 => B3.out.d i h2 h1)
        have K5 : Hid (Kept No w w5) := K3.out.trans k5 (fun i hlt hi => by have := X1.out i hi; omega)
        have T5 := Lib.hid (HT3.out.kept k5 (fun i h1 h2 => by have := hte.out i h1; have := B0.out.b1 i h2; omega))
        have hz5 := k5.size
        have b25 : Bnd F2 w5 := B3.out.b2.le hz5
        clear k5
        go_wp2_with fail
        refine (rcollect_u R5 b25 G0.out (by decide) HIs.out (HMr.out.keptNo K5.out) (by omega)).mono ?_
        rintro e w6 ⟨bv, rfl, h6, o6, k6⟩
        obtain ⟨A6, c6, rfl⟩ := o6.slice
        have hz6 := k6.size
        have B6 : Hid (Both w6 (fun i => F1 i ∨ (w3.heap.size ≤ i ∧ i < m)) (Grow F2 w5 w6) hb rb 4000 (colNs ns is more) (colNs ns is more)) :=
          ⟨h5.kept k6 (fun i h1 h2 => by
            rcases h1 with h1 | h1
            · exact B0.out.d i h1 h2
            · have := B3.out.b2 i h2; omega), h6, fun i h1 h2 => by
            rcases h1 with h1 | h1 <;> rcases h2 with h2 | h2
            · exact B0.out.d i h1 h2
            · have := B3.out.b1 i h1; omega
            · have := B3.out.b2 i h2; omega
            · omega, fun i h1 => by
            rcases h1 with h1 | h1
            · have := B3.out.b1 i h1; omega
            · omega, b25.grow hz6⟩
        have O56 := Lib.hid (own_kept o5 k6 (fun i h1 h2 => by have := (o5.lt i h1).1; have := B3.out.b2 i h2; omega))
        have hit := Lib.hid (fun i hi => o5.lt i hi : ∀ i, (Value.slice A5 (colXs ns is more).length c5).ownBlock = some i → m ≤ i ∧ i < w5.heap.size)
        have O6 := Lib.hid o6
        have K6 : Hid (Kept No w w6) := K5.out.trans k6 (fun i hlt hi => by have := X2.out i hi; omega)
        have T6 := Lib.hid (T5.out.kept k6 (fun i h1 h2 => by have := hte.out i h1; have := B0.out.b2 i h2; omega))
        have HGn := Lib.hid hgn
        have hlenN : (colNs ns is more).length ≤ 4000 := by have := hgn.len; omega
        have X1' : Hid (∀ i, (F1 i ∨ (w3.heap.size ≤ i ∧ i < m)) → w.heap.size ≤ i) := fun i hi => by
          rcases hi with hi | hi
          · exact X1.out i hi
          · omega
        have X2' : Hid (∀ i, Grow F2 w5 w6 i → w.heap.size ≤ i) := fun i hi => by
          rcases hi with hi | hi
          · exact X2.out i hi
          · omega
        clear h5 o5 h6 o6 k6 R5 b25 hgn T5 K5 K3 HT3 HTr
        generalize colNs ns is more = ms at *
        generalize colXs ns is more = xs at *
        generalize errOf ns more = er at *
        generalize hnn : (ns.length : Int) - (ms.length : Int) = nn at *
        clear hnn
        go_wp2_with fail
        have s1 := own_reads O56.out (F := fun _ => True) (fun _ _ => trivial)
        refine (sameInts_any s1 O6.out (by omega) (by omega)).mono ?_
        rintro e w7 ⟨rfl, k7⟩
        rw [decide_eq_true rfl]
        have K7 := Lib.hid (K6.out.thenNo k7)
        have B7 := Lib.hid (B6.out.keptNo k7)
        have T7 := Lib.hid (T6.out.kept k7 (fun _ _ hn => hn))
        have Oa := Lib.hid (own_kept O56.out k7 (fun _ _ hn => hn))
        have hz7 := k7.size
        clear s1 k7 K6 B6 T6 O56 O6
        go_wp2_with fail
        go_loopw [20] (fun t20 wx => ∃ (j : Nat) (ys : List Int), j ≤ xs.length ∧ t20 = .int .i64 j ∧ Hid (wx.ownsRow m 3 1 (.slice A5 xs.length c5) xs.length (ints ys)) ∧ Hid (Kept (Its (.slice A5 xs.length c5)) w7 wx)) (fun t20 _ => xs.length - (intOf t20).toNat)
        case atStart => exact ⟨0, xs, by omega, rfl, Oa, Kept.refl _ _⟩
        case round =>
          obtain ⟨j, ys, hj, rfl, HO, HK⟩ := hrel
          by_cases hlt : j < xs.length
          · obtain ⟨g, c', u, he, hu, hcu, hfu, _⟩ := own_get HO.out hlt
            injection he with he _ hc
            subst he hc
            obtain ⟨st1, st2⟩ := HO.out.stored j (.int .i64 (-3))
            rw [ints_set] at st1
            have ST := Lib.hid st1
            have HK2 := Lib.hid (HK.out.grown st2 (fun j hj _ => by injection hj with hj; subst hj; rfl))
            clear st1 st2 hu
            go_wp2_with fail
            go_roundw
            case rel => exact ⟨j + 1, _, by omega, by go_num, ST, HK2⟩
            case measure => (simp [intOf]; try omega)
          · have hje : j = xs.length := by omega
            subst hje
            have BB := Lib.hid (B7.out.kept HK.out (fun i h1 h2 => by
              have := hit.out i h2
              rcases h1 with h1 | h1
              · have := B3.out.b1 i h1; omega
              · omega) (fun i h1 h2 => by
              have := hit.out i h2
              rcases h1 with h1 | h1
              · have := B3.out.b2 i h1; omega
              · omega))
            have TT := Lib.hid (T7.out.kept HK.out (fun i h1 h2 => by have := hit.out i h2; have := hte.out i h1; omega))
            have KK : Hid (Kept No w wr) := K7.out.trans HK.out (fun i hlt hi => by have := hit.out i hi; omega)
            have RR := Lib.hid (HMr.out.keptNo KK.out)
            clear B7 T7 K7 HK HO Oa
            go_wp2_with fail
            refine (held_law12 TT.out RR.out (by omega) (fun i h1 h2 => by have := hte.out i h1; omega)).mono ?_
            rintro e w9 ⟨rfl, k9⟩
            have B9 := Lib.hid (BB.out.kept k9 (fun i h1 h2 => by
              have := hte.out i h2
              rcases h1 with h1 | h1
              · have := B0.out.b1 i h1; omega
              · omega) (fun i h1 h2 => by
              have := hte.out i h2
              rcases h1 with h1 | h1
              · have := B0.out.b2 i h1; omega
              · omega))
            have K9 : Hid (Kept No w w9) := KK.out.trans k9 (fun i hlt hi => by have := hte.out i hi; omega)
            clear k9 BB TT RR KK
            go_wp2_with fail
            refine (told_law12 B9.out.h B9.out.b1 HGn.out.sane hlenN).mono ?_
            rintro e wa ⟨nv, rfl, ha, ka⟩
            obtain ⟨Aa, ca, rfl⟩ := ha.reads.slice
            have HNa := Lib.hid ha.reads
            have Ba := Lib.hid (B9.out.keptNo ka)
            have Ka := Lib.hid (K9.out.thenNo ka)
            clear ha ka B9 K9
            obtain ⟨Ar, cr, _, hrl, _, z1, _, hnr⟩ := Ba.out.r.open_
            have HNr := Lib.hid hnr.reads
            have hsh := Lib.hid (short_good2 HGn.out (by decide))
            clear hnr
            go_wp2_with fail
            refine (sameNodes_any HNa.out HNr.out hsh.out hsh.out).mono ?_
            rintro e wb ⟨rfl, kb⟩
            rw [decide_eq_true rfl]
            have Kb := Lib.hid (Ka.out.thenNo kb)
            have Bb := Lib.hid (Ba.out.keptNo kb)
            clear kb z1 Ka Ba HNa HNr
            obtain ⟨_, _, _, hrl2, _, z2, _, _⟩ := Bb.out.r.open_
            have hq : Hid (∀ W : World, Kept No wb W → Calls Try.prog 24 #[.pointer (some ⟨hb, 0, none⟩)] W fun e w' => e = .returned (.int .i64 ms.length) ∧ w' = W) := fun W hW => (used_any (Bb.out.h.keptNo hW)).mono fun _ _ h => ⟨h.1, h.2.symm⟩
            go_wp2_with fail
            go_quiet ((go_at_call 24; first | exact Calls.quiet_of_same (hq.out _ (Kept.refl _ _)) | exact Calls.quiet_of_same (hq.out _ ((Kept.refl _ _).drewN _))))
            go_wp2_with fail
            go_roundw
            case rel => exact ⟨1 + 1, ms, _, _, by omega, by go_num, Bb.out.keptNo ((Kept.refl No wb).drewN _), HGn, X1', X2', Kb.out.drewN _⟩
            case measure => (simp [intOf]; try omega)
      · go_wp2_with fail
        go_ret
        exact ⟨rfl, K2.out⟩
  · obtain ⟨rfl, k2⟩ := hno hg
    have fin := Lib.hid (K1.out.thenNo k2)
    clear hno hyes k2
    go_wp2_with fail
    go_ret
    exact ⟨rfl, fin.out⟩
end Go.Proofs.Ytooalgnppnmeaaa
