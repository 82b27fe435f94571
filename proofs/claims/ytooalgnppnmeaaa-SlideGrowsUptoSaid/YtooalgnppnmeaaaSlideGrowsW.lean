/- SlideGrows: the walk. -/
import Derived.Test.YtooalgnppnmeaaaSlideOrderW
import Derived.Test.YtooalgnppnmeaaaSlideG
import Derived.Test.YtooalgnppnmeaaaL11d
namespace Go.Proofs.Ytooalgnppnmeaaa
open Go.RowKit

theorem row_at {w : World} {base n : Nat} {v : Value} {l : List Int} (h : w.ownsRow base 3 1 v n (ints l)) (hn : n = l.length) {k : Nat} {x : Int} (hx : l[k]? = some x) : ∃ g c, v = .slice (some ⟨g, 0, none⟩) n c ∧ w.cell? ⟨g, k, none⟩ = some (.int .i64 x) := by
  have hl := (List.getElem?_eq_some_iff.1 hx).1
  obtain ⟨g, c, u, e, hu, hc, _⟩ := own_get h (i := k) (by omega)
  refine ⟨g, c, e, ?_⟩
  rw [ints_get, hx] at hu
  rw [hc, ← hu]; rfl

set_option maxRecDepth 100000 in
set_option maxHeartbeats 4000000 in
theorem slideGrows_any (v0 : Value) (l : List Nd) (v1 : Value) (raw : List Int) (more : Int) (w : World) (hl : NodesR w (fun _ => True) v0 l) (hB : Bulk l) (hr : RowR w 1 (fun _ => True) v1 raw.length (ints raw)) (hI : ∀ x ∈ raw, I64 x) (hsz : raw.length ≤ 1048576) (hmore : I64 more) :
    Calls Try.prog 16 #[v0, v1, .int .i64 more] w (RetYes w) := by
  obtain ⟨A0, c0, rfl⟩ := hl.slice
  obtain ⟨A1, c1, rfl⟩ := hr.slice
  have HL := Lib.hid (hl.mono (fun _ _ h => h) : NodesR w (fun k => k < w.heap.size) _ l)
  have HRr := Lib.hid (hr.mono (fun _ _ h => h) : RowR w 1 (fun k => k < w.heap.size) _ raw.length (ints raw))
  have HB := Lib.hid hB
  have HII := Lib.hid hI
  clear hl hr hB hI
  go_enter Try.func16, Try.ntmps16
  go_wp2_with fail
  refine (awake12_any _).mono ?_
  rintro e w1 ⟨rfl, k1⟩
  have K1 := Lib.hid k1
  have HL1 := Lib.hid (HL.out.keptNo k1)
  have HR1 := Lib.hid (HRr.out.keptNo k1)
  have hz1 := k1.size
  clear k1 HL HRr
  go_wp2_with fail
  refine (made_any HL1.out HB.out).mono ?_
  rintro e w2 ⟨hno, hyes⟩
  by_cases hg : Good 4000 l
  · obtain ⟨hb, rb, F1, F2, rfl, b2, hf1, hf2, k2⟩ := hyes hg
    have hlen : l.length ≤ 4000 := by have := hg.len; omega
    obtain ⟨is, his⟩ := IsL.exists_ hg.sane hg.acyc
    have HGd := Lib.hid hg
    have HIs := Lib.hid his
    have H2 := Lib.hid b2.h
    have HBn := Lib.hid b2.b1
    have K2 := Lib.hid (K1.out.thenNo k2)
    have HL2 := Lib.hid (HL1.out.keptNo k2)
    have HR2 := Lib.hid (HR1.out.keptNo k2)
    have hF : Hid (∀ k, F1 k → w.heap.size ≤ k) := fun k hk => Nat.le_trans hz1 (hf1 k hk)
    have hz2 := k2.size
    clear hno hyes hg his b2 hf1 hf2 k2 HL1 HR1 K1
    by_cases hl0 : l.length = 0
    · have hok0 : okRoots l [] = true := rfl
      have hlv : (liveOf l is []).length = 0 := by
        have : (liveOf l is []).length ≤ l.length := by
          rw [liveOf_eq hok0]; exact liveUp_le _ _
        omega
      have her : errOf l [] = 0 := rfl
      go_wp2_with fail
      refine (live_any H2.out HGd.out.sane HGd.out.acyc hlen HIs.out (roots := []) (RowR.nil w2 1 No) (by simp)).mono ?_
      rintro e w4 ⟨lv, rfl, o4, k4⟩
      rw [her]
      obtain ⟨Al, cl, rfl⟩ := (own_reads o4 (F := fun _ => True) (fun _ _ => trivial)).slice
      rw [hlv]
      have K4 := Lib.hid (K2.out.thenNo k4)
      clear o4 k4 hlv her hok0
      go_wp2_with fail
      go_ret
      exact ⟨rfl, K4.out⟩
    have hl1 : ((l.length : Int) == 0) = false := by rw [beq_eq_false_iff_ne]; omega
    go_wp2_with fail
    refine (some_any HR2.out HII.out (by omega) hlen).mono ?_
    rintro e w3 ⟨rv, rfl, o3, k3⟩
    have hok := someP_ok (ns := l) raw
    have hrl := someP_length raw l.length
    generalize someP raw l.length = roots at *
    obtain ⟨Ar, cr, rfl⟩ := (own_reads o3 (F := fun _ => True) (fun _ _ => trivial)).slice
    have R3 := Lib.hid o3
    have H3 := Lib.hid (H2.out.keptNo k3)
    have HL3 := Lib.hid (HL2.out.keptNo k3)
    have K3 := Lib.hid (K2.out.thenNo k3)
    have HOK := Lib.hid hok
    clear o3 k3 hok H2 HL2 HR2 K2
    go_wp2_with fail
    refine (live_any H3.out HGd.out.sane HGd.out.acyc hlen HIs.out (own_reads R3.out (F := fun _ => True) (fun _ _ => trivial)) (by omega)).mono ?_
    rintro e w4 ⟨lv, rfl, o4, k4⟩
    rw [show errOf l roots = 0 by unfold errOf; rw [if_pos HOK.out]]
    have hal : (liveOf l is roots).length ≤ l.length := by rw [liveOf_eq HOK.out]; exact liveUp_le _ _
    obtain ⟨Aa, ca, rfl⟩ := (own_reads o4 (F := fun _ => True) (fun _ _ => trivial)).slice
    have O4 := Lib.hid o4
    have H4 := Lib.hid (H3.out.keptNo k4)
    have HL4 := Lib.hid (HL3.out.keptNo k4)
    have R4 := Lib.hid (own_kept R3.out k4 (fun _ _ hn => hn))
    have K4 := Lib.hid (K3.out.thenNo k4)
    clear o4 k4 H3 HL3 R3 K3
    -- the roots, and one more
    have hpr := pickP_range more l.length (by omega)
    obtain ⟨ev, w5, happ, ho5, hg5, hat5, _⟩ := run_append_row (P := Try.prog) (ty := 22) Try.underlying22 info3 rfl (by decide) (lit0 w4) ((own_reads R4.out (F := fun _ => True) (fun _ _ => trivial)).keptNo ((Kept.refl No w4).alloc (.cells #[] 3))) (ints_one roots) (by omega) (by omega) (by simp)
    have k5 : Kept No w4 w5 := ((Kept.refl No w4).alloc (.cells #[] 3)).grown hg5 (fun k hk hlt => by simp [Value.ownBlock] at hk; omega)
    have ho5' : w5.ownsRow w4.heap.size 3 1 ev roots.length (ints roots) := by simpa [ints] using ho5
    obtain ⟨g6, c6, w6, happ2, ho6, k6, _⟩ := int_push ho5' k5.size (pickP more l.length) (by omega)
    obtain ⟨Ae, ce, rfl⟩ := (own_reads ho5' (F := fun _ => True) (fun _ _ => trivial)).slice
    have k46 : Kept No w4 w6 := k5.trans k6 (fun i hlt hi => by have := (ho5'.lt i hi).1; omega)
    have R6 := Lib.hid (own_reads ho6 (F := fun _ => True) (fun _ _ => trivial))
    have HOK2 := Lib.hid (okRoots_append (pickP more l.length) HOK.out (inR_iff.2 hpr))
    have H6 := Lib.hid (H4.out.keptNo k46)
    have O6 := Lib.hid (own_kept O4.out k46 (fun _ _ hn => hn))
    have HL6 := Lib.hid (HL4.out.keptNo k46)
    have Rr6 := Lib.hid (own_kept R4.out k46 (fun _ _ hn => hn))
    have K6 := Lib.hid (K4.out.thenNo k46)
    have hl2 : (roots ++ [pickP more l.length]).length = roots.length + 1 := by simp
    have HPk := Lib.hid (pick12_any more l.length w5 hmore (by omega) (by omega))
    have HMn := Lib.hid (fun (y : Int) (hy : 0 ≤ y ∧ y < l.length) (h : sees (keepOf l is roots) y = true) => keep_more (is := is) (pickP more l.length) hy h)
    rw [hl2] at R6
    clear ho5 hg5 hat5 k5 ho5' ho6 k6 k46 H4 O4 HL4 R4 K4
    go_wp2_with (at_builtin; refine wpList_append_run rfl (.tmp 71) (.tmp 72) 22 rfl rfl rfl happ ?_; clear happ)
    refine HPk.out.mono ?_
    rintro e w5' ⟨rfl, rfl⟩
    generalize hrr : roots ++ [pickP more l.length] = roots2 at *
    generalize pickP more l.length = pk at *
    go_wp2_with (at_builtin; refine wpList_append_run rfl (.tmp 73) (.tmp 78) 22 rfl rfl rfl happ2 ?_; clear happ2)
    rw [← hl2] at R6
    have hbig2 : roots2.length ≤ 2000000 := by omega
    have HL2 := Lib.hid hl2
    clear hl2
    rw [← HL2.out]
    refine (live_any H6.out HGd.out.sane HGd.out.acyc hlen HIs.out R6.out hbig2).mono ?_
    rintro e w7 ⟨bv, rfl, o7, k7⟩
    rw [show errOf l roots2 = 0 by unfold errOf; rw [if_pos HOK2.out]]
    have hbl : (liveOf l is roots2).length ≤ l.length := by rw [liveOf_eq HOK2.out]; exact liveUp_le _ _
    obtain ⟨Ab, cb, rfl⟩ := (own_reads o7 (F := fun _ => True) (fun _ _ => trivial)).slice
    have HLa := Lib.hid (liveOf_eq HOK.out (is := is))
    have HLb := Lib.hid (liveOf_eq HOK2.out (is := is))
    have HIsL := Lib.hid (liveOf_is HIs.out HOK.out)
    have O7 := Lib.hid o7
    have H7 := Lib.hid (H6.out.keptNo k7)
    have A7 := Lib.hid (own_kept O6.out k7 (fun _ _ hn => hn))
    have HL7 := Lib.hid (HL6.out.keptNo k7)
    have R7 := Lib.hid (own_kept Rr6.out k7 (fun _ _ hn => hn))
    have K7 := Lib.hid (K6.out.thenNo k7)
    clear o7 k7 H6 O6 HL6 Rr6 R6 K6
    generalize hla : liveOf l is roots = la at *
    generalize hlb : liveOf l is roots2 = lb at *
    have HA0 : Hid (la = liveUp (keepOf l is roots) l.length) := by show _ = _; rw [← HLa.out, ← hla]
    have HB0 : Hid (lb = liveUp (keepOf l is roots2) l.length) := by show _ = _; rw [← HLb.out, ← hlb]
    clear hla hlb HLa HLb
    have HAin : Hid (∀ x ∈ la, (0 ≤ x ∧ x < l.length) ∧ x ∈ lb) := by
      show ∀ x ∈ la, _
      intro x hx
      rw [HA0.out] at hx
      obtain ⟨a1, a2, a3⟩ := liveUp_mem.1 hx
      exact ⟨⟨a1, a2⟩, by rw [HB0.out]; exact liveUp_mem.2 ⟨a1, a2, HMn.out x ⟨a1, a2⟩ a3⟩⟩
    have HBin : Hid (∀ x ∈ lb, 0 ≤ x ∧ x < l.length) := by
      show ∀ x ∈ lb, _
      intro x hx
      rw [HB0.out] at hx
      obtain ⟨a1, a2, _⟩ := liveUp_mem.1 hx
      exact ⟨a1, a2⟩
    have HRin : Hid (∀ r ∈ roots, at0 is r ∈ lb) := by
      show ∀ r ∈ roots, _
      intro r hr
      have hri := List.all_eq_true.1 HOK.out r hr
      have h1 := inR_iff.1 (HIs.out.inR hri)
      rw [HB0.out]
      exact liveUp_mem.2 ⟨h1.1, h1.2, HMn.out _ h1 (keep_root HIs.out hr hri)⟩
    have HDown : Hid (∀ x ∈ lb, ∀ n, ndAt l x = some n → ∀ y ∈ n.args, inR l y = true ∧ at0 is y ∈ lb) := by
      show ∀ x ∈ lb, _
      intro x hx n hn y hy
      rw [HB0.out] at hx
      obtain ⟨a1, a2, a3⟩ := liveUp_mem.1 hx
      have hyi := HGd.out.sane.arg (ndAt_mem hn) hy
      have h1 := inR_iff.1 (HIs.out.inR hyi)
      refine ⟨hyi, ?_⟩
      rw [HB0.out]
      exact liveUp_mem.2 ⟨h1.1, h1.2, (keepOk_of HGd.out.sane HIs.out HOK2.out).down x n hn a3 y hy⟩
    clear HA0 HB0 HMn hrr
    go_wp2_with fail
    go_loopw [17, 18] (fun t17 t18 wr => ∃ k : Nat, k ≤ roots.length ∧ t18 = .int .i64 k ∧ Hid (wr.ownsRow w7.heap.size 3 1 t17 k (ints ((roots.take k).map (at0 is)))) ∧ Hid (Kept No w7 wr)) (fun _ t18 _ => roots.length - (intOf t18).toNat)
    case atStart => exact ⟨0, by omega, rfl, World.ownsRow_nil _ _ _ _, Kept.refl _ _⟩
    case round =>
      obtain ⟨k, hk, rfl, HO, HK⟩ := hrel
      obtain ⟨At, ct, rfl⟩ := (own_reads HO.out (F := fun _ => True) (fun _ _ => trivial)).slice
      have hlk : ((roots.take k).map (at0 is)).length = k := by rw [List.length_map, List.length_take]; omega
      by_cases hlt : k < roots.length
      · have hx : roots[k]? = some roots[k] := List.getElem?_eq_getElem hlt
        have htk : roots.take (k + 1) = roots.take k ++ [roots[k]] := by rw [List.take_add_one, hx]; rfl
        obtain ⟨gr, cr', he, hcr⟩ := row_at (own_kept R7.out HK.out (fun _ _ hn => hn)) rfl hx
        injection he with he _ hc
        subst he hc
        have hri := List.all_eq_true.1 HOK.out _ (List.mem_of_getElem? hx)
        generalize roots[k] = r at *
        have HRes := Lib.hid (resolve_yes (H7.out.keptNo HK.out) HGd.out.acyc r (at0 is r) (HIs.out.is hri))
        obtain ⟨g4, c4, w8, happ, ho4, k4, _⟩ := int_push (v := .slice At k ct) (l := (roots.take k).map (at0 is)) (by rw [hlk]; exact HO.out) HK.out.size (at0 is r) (by rw [hlk]; omega)
        rw [hlk] at happ
        have HO4 : Hid (w8.ownsRow w7.heap.size 3 1 (.slice (some ⟨g4, 0, none⟩) (k + 1) c4) (k + 1) (ints ((roots.take (k + 1)).map (at0 is)))) := by
          show World.ownsRow _ _ _ _ _ _ _
          rw [htk, List.map_append]
          rw [List.length_append, hlk] at ho4
          exact ho4
        have HK4 := Lib.hid (HK.out.trans k4 (fun i hlt hi => by have := (HO.out.lt i hi).1; omega))
        clear ho4 k4 htk hlk hx hri
        go_wp2_with fail
        refine HRes.out.mono ?_
        rintro e w9 ⟨rfl, rfl⟩
        go_wp2_with (at_builtin; refine wpList_append_run rfl (.tmp 98) (.tmp 100) 22 rfl rfl rfl happ ?_; clear happ)
        go_roundw
        case rel => exact ⟨k + 1, by omega, by go_num, HO4, HK4⟩
        case measure => (simp [intOf]; try omega)
      · have hke : k = roots.length := by omega
        subst hke
        rw [List.take_length] at HO hlk
        rw [← hlk] at HO
        have HIsR := Lib.hid (okRoots_is HIs.out HOK.out)
        have H8 := Lib.hid (H7.out.keptNo HK.out)
        have A8 := Lib.hid (own_kept A7.out HK.out (fun _ _ hn => hn))
        have B8 := Lib.hid (own_kept O7.out HK.out (fun _ _ hn => hn))
        have HL8 := Lib.hid (HL7.out.keptNo HK.out)
        have K8 := Lib.hid (K7.out.thenNo HK.out)
        have rr8 := Lib.hid (own_reads HO.out (F := fun _ => True) (fun _ _ => trivial))
        have I8 := Lib.hid HO.out
        obtain ⟨W8, hW8⟩ : ∃ W8, W8 = wr := ⟨_, rfl⟩
        subst hW8
        clear H7 A7 O7 HL7 K7 HO R7
        generalize hrm : roots.map (at0 is) = rm at *
        have HRm := Lib.hid hrm
        have hrml : rm.length ≤ 2000000 := by omega
        have HLK := Lib.hid hlk
        clear hrm hlk
        go_wp2_with fail
        rw [← HLK.out]
        refine (live_any H8.out HGd.out.sane HGd.out.acyc hlen HIs.out rr8.out hrml).mono ?_
        rintro e w9 ⟨cv, rfl, o9, k9⟩
        rw [show errOf l rm = 0 by unfold errOf; rw [if_pos HIsR.out]]
        rw [HIsL.out] at o9
        obtain ⟨Ac, cc, rfl⟩ := (own_reads o9 (F := fun _ => True) (fun _ _ => trivial)).slice
        have C9 := Lib.hid o9
        have H9 := Lib.hid (H8.out.keptNo k9)
        have A9 := Lib.hid (own_kept A8.out k9 (fun _ _ hn => hn))
        have B9 := Lib.hid (own_kept B8.out k9 (fun _ _ hn => hn))
        have I9 := Lib.hid (own_kept I8.out k9 (fun _ _ hn => hn))
        have HL9 := Lib.hid (HL8.out.keptNo k9)
        have K9 := Lib.hid (K8.out.thenNo k9)
        clear o9 k9 H8 A8 B8 I8 HL8 K8 rr8
        go_wp2_with fail
        have s1 := own_reads A9.out (F := fun _ => True) (fun _ _ => trivial)
        have s2 := own_reads C9.out (F := fun _ => True) (fun _ _ => trivial)
        refine (sameInts_any s1 s2 (by omega) (by omega)).mono ?_
        rintro e wa ⟨rfl, ka⟩
        rw [decide_eq_true rfl]
        have Ha := Lib.hid (H9.out.keptNo ka)
        have Aa' := Lib.hid (own_kept A9.out ka (fun _ _ hn => hn))
        have Ba := Lib.hid (own_kept B9.out ka (fun _ _ hn => hn))
        have Ia := Lib.hid (own_kept I9.out ka (fun _ _ hn => hn))
        have HLa := Lib.hid (HL9.out.keptNo ka)
        have Ka := Lib.hid (K9.out.thenNo ka)
        clear s1 s2 ka H9 A9 B9 I9 C9 HL9 K9
        obtain ⟨iv, w10, hmk, ⟨An, cn, rfl⟩, ho10, hg10⟩ := run_make_one (P := Try.prog) (z := .bool false) Try.underlying83 info4 rfl l.length (by omega) (by omega) wa
        have k10 : Kept No wa w10 := Kept.of_grown hg10 (by simp)
        have N10 : Hid (w10.ownsRow wa.heap.size 4 1 (.slice An l.length cn) l.length (bools (inUp lb l.length 0))) := by
          show World.ownsRow _ _ _ _ _ _ _
          rw [inUp_zero]
          simpa [bools] using ho10
        have K10 := Lib.hid k10
        clear k10 ho10 hg10
        go_wp2_with fail
        clear hmk
        go_loopw [25] (fun t25 wr => ∃ k : Nat, k ≤ lb.length ∧ t25 = .int .i64 k ∧ Hid (wr.ownsRow wa.heap.size 4 1 (.slice An l.length cn) l.length (bools (inUp lb l.length k))) ∧ Hid (Kept No wa wr)) (fun t25 _ => lb.length - (intOf t25).toNat)
        case atStart => exact ⟨0, by omega, rfl, N10, K10⟩
        case round =>
          clear N10 K10
          obtain ⟨k, hk, rfl, HN, HK⟩ := hrel
          by_cases hlt : k < lb.length
          · have hx : lb[k]? = some lb[k] := List.getElem?_eq_getElem hlt
            obtain ⟨gr, cr', he, hcr⟩ := row_at (own_kept Ba.out HK.out (fun _ _ hn => hn)) rfl hx
            injection he with he _ hc
            subst he hc
            obtain ⟨hx0, hx1⟩ := HBin.out _ (List.mem_of_getElem? hx)
            have hset := inUp_set hx ⟨hx0, hx1⟩
            generalize lb[k] = x at *
            have hxl : x.toNat < l.length := by omega
            obtain ⟨gn, cn', u, he, hu, hcu, hfu, _⟩ := own_get HN.out hxl
            injection he with he _ hc
            subst he hc
            obtain ⟨st1, st2⟩ := HN.out.stored x.toNat (.bool true)
            rw [bools_set, hset] at st1
            have a1 : decide (x < 0) = false := by simpa using hx0
            have a2 : decide ((l.length : Int) ≤ x) = false := by simpa using hx1
            have ST := Lib.hid st1
            have HK2 : Hid (Kept No wa _) := HK.out.grown st2 (fun j hj hlt2 => by injection hj with hj; subst hj; have := (HN.out.lt gn rfl).1; omega)
            clear st1 st2 hset hx hu
            go_wp2_with fail
            go_roundw
            case rel => exact ⟨k + 1, by omega, by go_num, ST, HK2⟩
            case measure => (simp [intOf]; try omega)
          · have hke : k = lb.length := by omega
            subst hke
            have hsee : Hid (∀ x : Int, (0 ≤ x ∧ x < l.length) → x ∈ lb → sees (inUp lb l.length lb.length) x = true) := fun x hx hm => by
              rw [inUp_sees hx, List.take_length]
              exact decide_eq_true hm
            have Hb := Lib.hid (Ha.out.keptNo HK.out)
            have Ab' := Lib.hid (own_kept Aa'.out HK.out (fun _ _ hn => hn))
            have Bb := Lib.hid (own_kept Ba.out HK.out (fun _ _ hn => hn))
            have Ib := Lib.hid (own_kept Ia.out HK.out (fun _ _ hn => hn))
            have HLb := Lib.hid (HLa.out.keptNo HK.out)
            have Kb := Lib.hid (Ka.out.thenNo HK.out)
            obtain ⟨Wb, hWb⟩ : ∃ Wb, Wb = wr := ⟨_, rfl⟩
            subst hWb
            clear Ha Aa' Ba Ia HLa Ka
            go_wp2_with fail
            go_loopw [26] (fun t26 wr => ∃ k : Nat, k ≤ la.length ∧ t26 = .int .i64 k ∧ wr = Wb) (fun t26 _ => la.length - (intOf t26).toNat)
            case atStart => exact ⟨0, by omega, rfl, rfl⟩
            case round =>
              obtain ⟨k, hk, rfl, rfl⟩ := hrel
              by_cases hlt : k < la.length
              · have hx : la[k]? = some la[k] := List.getElem?_eq_getElem hlt
                obtain ⟨gr, cr', he, hcr⟩ := row_at Ab'.out rfl hx
                injection he with he _ hc
                subst he hc
                obtain ⟨⟨hx0, hx1⟩, hxb⟩ := HAin.out _ (List.mem_of_getElem? hx)
                generalize la[k] = x at *
                obtain ⟨gn, cn', he, hcu⟩ := sees_row HN.out (inUp_length _ _ _) ⟨hx0, hx1⟩
                injection he with he _ hc
                subst he hc
                rw [hsee.out x ⟨hx0, hx1⟩ hxb] at hcu
                have a1 : decide (x < 0) = false := by simpa using hx0
                have a2 : decide ((l.length : Int) ≤ x) = false := by simpa using hx1
                have hxl : x.toNat < l.length := by omega
                clear hx hxb
                go_wp2_with fail
                go_roundw
                case rel => exact ⟨k + 1, by omega, by go_num, trivial⟩
                case measure => (simp [intOf]; try omega)
              · have hke : k = la.length := by omega
                subst hke
                obtain ⟨Wb, hWb⟩ : ∃ Wb, Wb = wr := ⟨_, rfl⟩
                subst hWb
                go_wp2_with fail
                go_loopw [27] (fun t27 wr => ∃ k : Nat, k ≤ rm.length ∧ t27 = .int .i64 k ∧ wr = Wb) (fun t27 _ => rm.length - (intOf t27).toNat)
                case atStart => exact ⟨0, by omega, rfl, rfl⟩
                case round =>
                  obtain ⟨k, hk, rfl, rfl⟩ := hrel
                  by_cases hlt : k < rm.length
                  · have hx : rm[k]? = some rm[k] := List.getElem?_eq_getElem hlt
                    obtain ⟨gr, cr', he, hcr⟩ := row_at Ib.out rfl hx
                    injection he with he _ hc
                    subst he hc
                    have hall : ∀ z ∈ rm, z ∈ lb := fun z hm => by
                      rw [← HRm.out] at hm
                      obtain ⟨r, hr, e⟩ := List.mem_map.1 hm
                      rw [← e]
                      exact HRin.out r hr
                    have hxb := hall _ (List.mem_of_getElem? hx)
                    clear hall
                    obtain ⟨hx0, hx1⟩ := HBin.out _ hxb
                    generalize rm[k] = x at *
                    obtain ⟨gn, cn', he, hcu⟩ := sees_row HN.out (inUp_length _ _ _) ⟨hx0, hx1⟩
                    injection he with he _ hc
                    subst he hc
                    rw [hsee.out x ⟨hx0, hx1⟩ hxb] at hcu
                    have hxl : x.toNat < l.length := by omega
                    clear hx hxb
                    go_wp2_with fail
                    go_roundw
                    case rel => exact ⟨k + 1, by omega, by go_num, trivial⟩
                    case measure => (simp [intOf]; try omega)
                  · have hke : k = rm.length := by omega
                    subst hke
                    obtain ⟨Wb, hWb⟩ : ∃ Wb, Wb = wr := ⟨_, rfl⟩
                    subst hWb
                    go_wp2_with fail
                    go_loopw [28] (fun t28 wr => ∃ k : Nat, k ≤ lb.length ∧ t28 = .int .i64 k ∧ wr = Wb) (fun t28 _ => lb.length - (intOf t28).toNat)
                    case atStart => exact ⟨0, by omega, rfl, rfl⟩
                    case round =>
                      obtain ⟨k, hk, rfl, rfl⟩ := hrel
                      by_cases hlt : k < lb.length
                      · have hx : lb[k]? = some lb[k] := List.getElem?_eq_getElem hlt
                        obtain ⟨gr, cr', he, hcr⟩ := row_at Bb.out rfl hx
                        injection he with he _ hc
                        subst he hc
                        have hxm := List.mem_of_getElem? hx
                        obtain ⟨hx0, hx1⟩ := HBin.out _ hxm
                        obtain ⟨n, hn1, hn2⟩ := ndAt_of (inR_iff.2 (HBin.out _ hxm))
                        have HArg := Lib.hid (HDown.out _ hxm n hn1)
                        generalize lb[k] = x at *
                        have hxl : x.toNat < l.length := by omega
                        obtain ⟨b0, o0, e0, a0, he0, _, _, _, x1, _, _, _, hrow0⟩ := HLb.out.at_ hn2
                        injection he0 with he0 _ hc
                        subst he0 hc
                        obtain ⟨B0, d0, rfl⟩ := hrow0.slice
                        have h6 := HGd.out.sane.few n (List.mem_of_getElem? hn2)
                        have HRow := Lib.hid hrow0
                        obtain ⟨Wb, hWb⟩ : ∃ Wb, Wb = wr := ⟨_, rfl⟩
                        subst hWb
                        clear hx hxm hn1 hn2 hrow0
                        go_wp2_with fail
                        go_loopw [29] (fun t29 wr => ∃ j : Nat, j ≤ n.args.length ∧ t29 = .int .i64 j ∧ wr = Wb) (fun t29 _ => n.args.length - (intOf t29).toNat)
                        case atStart => exact ⟨0, by omega, rfl, rfl⟩
                        case round =>
                          obtain ⟨j, hj, rfl, rfl⟩ := hrel
                          by_cases hlt2 : j < n.args.length
                          · have hy : n.args[j]? = some n.args[j] := List.getElem?_eq_getElem hlt2
                            obtain ⟨hyi, hyb⟩ := HArg.out _ (List.mem_of_getElem? hy)
                            obtain ⟨_, A', cv', he, hcc, hrd⟩ := HRow.out
                            injection he with hA' _ hc
                            obtain ⟨bv2, ov2, hAv, _, _, hcell⟩ := hrd (by omega)
                            have hcl := hcell j (.int .i64 n.args[j]) (by rw [ints_get, hy]; rfl)
                            subst hA' hc hAv
                            generalize n.args[j] = y at *
                            have HRes := Lib.hid (resolve_yes Hb.out HGd.out.acyc y (at0 is y) (HIs.out.is hyi))
                            obtain ⟨hz0, hz1'⟩ := HBin.out _ hyb
                            have hsy := hsee.out _ ⟨hz0, hz1'⟩ hyb
                            generalize at0 is y = z at *
                            obtain ⟨gn, cn', he, hcu⟩ := sees_row HN.out (inUp_length _ _ _) ⟨hz0, hz1'⟩
                            injection he with he _ hc
                            subst he hc
                            rw [hsy] at hcu
                            have hzl : z.toNat < l.length := by omega
                            clear hy hyb hcell hrd hsy hyi
                            go_wp2_with fail
                            refine HRes.out.mono ?_
                            rintro e wz ⟨rfl, rfl⟩
                            go_wp2_with fail
                            go_roundw
                            case rel => exact ⟨j + 1, by omega, by go_num, trivial⟩
                            case measure => (simp [intOf]; try omega)
                          · have hje : j = n.args.length := by omega
                            subst hje
                            go_wp2_with fail
                            go_roundw
                            case rel => exact ⟨k + 1, by omega, by go_num, trivial⟩
                            case measure => (simp [intOf]; try omega)
                      · have hke : k = lb.length := by omega
                        subst hke
                        go_wp2_with fail
                        go_ret
                        exact ⟨rfl, Kb.out⟩
  · obtain ⟨rfl, k2⟩ := hno hg
    have fin := Lib.hid (K1.out.thenNo k2)
    clear hno hyes k2
    go_wp2_with fail
    go_ret
    exact ⟨rfl, fin.out⟩
end Go.Proofs.Ytooalgnppnmeaaa
