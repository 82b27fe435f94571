/- heap.ring. -/
import Derived.Test.YtooalgnppnmeaaaKMem
import Derived.Deep.LoopGhost
import Derived.Deep.DeepCutAuto
import Derived.Deep.CutBlock
import Derived.Deep.RegionLaw
namespace Go.Proofs.Ytooalgnppnmeaaa
open Go.RowKit

theorem info22 : (Try.prog.info? 22).map (fun i => (i.zero, i.size, i.bytes)) = some (some (.slice none 0 0), 1, 24) := by kernel_rfl

set_option maxRecDepth 100000 in
set_option maxHeartbeats 4000000 in
theorem hring_any {F : Nat → Prop} {v : Value} {ns : List Nd} {w : World} (hl : NodesR w F v ns) (hs : Sane ns) (hlen : ns.length ≤ 4000) (b : Bool) (hb : b = true ↔ ¬ Acyc ns) :
    Calls Try.prog 58 #[v] w (RetBool w b) := by
  obtain ⟨A, c, rfl⟩ := hl.slice
  have HL : Hid (NodesR w (fun i => i < w.heap.size) (.slice A ns.length c) ns) := hl.mono (fun _ _ h => h)
  have HI : Hid (Inn ns) := hs.inn
  have H6 := Lib.hid hs.few
  have HP := Lib.hid hs.ptr
  have HB := Lib.hid hb
  clear hl hs hb
  obtain ⟨sv, w1, hmk, ⟨A1, c1, rfl⟩, ho1, hg1⟩ := run_make_one (P := Try.prog) (z := .int .i64 0) Try.underlying22 info3 rfl ns.length (by omega) (by omega) w
  obtain ⟨sv2, w2, hmk2, ⟨A2, c2, rfl⟩, ho2, hg2⟩ := run_make_one (P := Try.prog) (z := .slice none 0 0) Try.underlying110 info22 rfl ns.length (by omega) (by omega) w1
  have k1 : Kept No w w1 := Kept.of_grown hg1 (by simp)
  have k2 : Kept No w1 w2 := Kept.of_grown hg2 (by simp)
  have M0 : Hid (KMem No (List.replicate ns.length (.slice none 0 0)) w w2 (.slice A1 ns.length c1) (.slice A2 ns.length c2) (.slice none 0 0) ns.length (List.replicate ns.length 0) (List.replicate ns.length []) []) :=
    KMem.begin (own_kept (by simpa [ints] using ho1) k2 (fun _ _ hn => hn)) (own_base ho2 (fun k hk => by have := (ho2.lt k hk).1; have := k1.size; omega)) (k1.thenNo k2)
  have P0 : Hid (Fill ns 0 (List.replicate ns.length 0) (List.replicate ns.length []) []) := Fill.begin ns
  clear ho1 ho2 hg1 hg2 k1 k2
  go_enter Try.func58, Try.ntmps58
  go_wp2_with fail
  clear hmk hmk2
  go_loopw [5, 23] (fun t5 t23 wr => ∃ (k : Nat) (vs : List Value) (wants : List Int) (ab : List (List Int)) (free : List Int), k ≤ ns.length ∧ t23 = .int .i64 k ∧ Hid (KMem No vs w wr (.slice A1 ns.length c1) (.slice A2 ns.length c2) t5 ns.length wants ab free) ∧ Hid (Fill ns k wants ab free)) (fun _ t23 _ => ns.length - (intOf t23).toNat)
  case atStart => exact ⟨0, _, _, _, _, by omega, rfl, M0, P0⟩
  case round =>
    clear M0 P0
    obtain ⟨k, vs, wants, ab, free, hk, rfl, HM, HF⟩ := hrel
    obtain ⟨wo, hwo⟩ : ∃ wo : World, wo = wr := ⟨_, rfl⟩
    by_cases hlt : k < ns.length
    · have hn2 : ns[k]? = some ns[k] := List.getElem?_eq_getElem hlt
      obtain ⟨b1, o1, c3, av, he, _, hb1, m0, m1, m2, m3, m4, hrow⟩ := (HL.out.keptNo HM.out.kept).at_ hn2
      injection he with he _ hc
      subst he hc
      generalize ns[k] = n at *
      have h6 := H6.out n (List.mem_of_getElem? hn2)
      obtain ⟨Av, cv, rfl⟩ := hrow.slice
      have HN : Hid (ndAt ns (k : Int) = some n) := by
        show _ = _
        simp [ndAt, hn2]
      have HR := Lib.hid hrow
      have HPN := Lib.hid (HP.out n (List.mem_of_getElem? hn2))
      obtain ⟨ga, ca, hea⟩ := HM.out.form hlt
      injection hea with hea _ hca
      subst hea hca
      clear hn2 hrow hwo
      go_upto_if 31 with fail
      go_cut [8] (fun s wx => ∃ A8 c8, s = .slice A8 n.down.length c8 ∧ Hid (RowR wx 1 (fun i => (i < w.heap.size ∨ wr.heap.size ≤ i) ∧ i < wx.heap.size) (.slice A8 n.down.length c8) n.down.length (ints n.down)) ∧ Hid (Kept No wr wx))
      case first =>
        cases hp : n.pts with
        | true =>
          rw [hp] at m3
          have hd : Hid (n.down = [n.to]) := by show _ = _; simp [Nd.down, hp]
          clear hp
          go_wp2_with fail
          go_meet
          rw [hd.out]
          have hr := RowR.new (wr.alloc (.cells #[.int .i64 n.sym, .slice Av n.args.length cv, .int .i64 n.mark, .bool true, .int .i64 n.to] 32)) 1 1 #[.int .i64 n.to] 3 rfl
          simp only [World.size_alloc] at hr
          exact ⟨_, _, rfl, hr.mono (fun i hi hlt => ⟨.inr (by omega), hlt⟩), ((Kept.refl No wr).alloc _).alloc _⟩
        | false =>
          rw [hp] at m3
          have hd : Hid (n.down = n.args) := by show _ = _; simp [Nd.down, hp]
          clear hp
          go_wp2_with fail
          go_meet
          rw [hd.out]
          have kk : Kept No wr (wr.alloc (.cells #[.int .i64 n.sym, .slice Av n.args.length cv, .int .i64 n.mark, .bool false, .int .i64 n.to] 32)) := (Kept.refl No wr).alloc _
          exact ⟨_, _, rfl, (HR.out.keptNo kk).mono (fun i hi hlt => ⟨.inl hi, hlt⟩), kk⟩
      case rest =>
        obtain ⟨A8, c8, rfl, HD, HK⟩ := hcut
        obtain ⟨X, hX⟩ : ∃ X : Nat → Prop, X = fun i => (i < w.heap.size ∨ wr.heap.size ≤ i) ∧ i < wc.heap.size := ⟨_, rfl⟩
        have M2 := HM.out.far HK.out
        have D2 := HD.out
        rw [← hX] at M2 D2
        obtain ⟨gw, cw, he, hcw, hfw, hxg⟩ := M2.formW HF.out.wl (x := (k : Int)) ⟨by omega, by omega⟩
        injection he with he _ hc
        subst he hc
        rw [Int.toNat_natCast] at hcw hfw
        have M3 : Hid (KMem X vs w (wc.setCell ⟨gw, k, none⟩ (.int .i64 n.down.length)) _ _ _ _ _ _ _) := M2.storeW HF.out.wl k (n.down.length : Int)
        have D3 : Hid (RowR (wc.setCell ⟨gw, k, none⟩ (.int .i64 n.down.length)) 1 X _ _ _) := D2.move (fun _ h _ => h) (by simp [World.setCell]) (fun i hi hlt => Below.heap_setCell _ _ _ _ (hxg i hi))
        have F3 : Hid (FillIn ns k (n.down.take 0) ab) := FillIn.begin HF.out
        have hdn : n.down.length ≤ 6 := by unfold Nd.down; split; exact (by simp); exact h6
        clear M2 D2 HD hxg m0 m1 m2 m3 m4 hX
        go_wp2_with fail
        clear hcw hfw
        go_loopw [42] (fun t42 wr4 => ∃ (m : Nat) (vs2 : List Value) (ab2 : List (List Int)), m ≤ n.down.length ∧ t42 = .int .i64 m ∧ Hid (KMem X vs2 w wr4 (.slice (some ⟨gw, 0, none⟩) ns.length c1) (.slice (some ⟨ga, 0, none⟩) ns.length c2) u5 ns.length (wants.set k n.down.length) ab2 free) ∧ Hid (FillIn ns k (n.down.take m) ab2) ∧ Hid (RowR wr4 1 X (.slice A8 n.down.length c8) n.down.length (ints n.down))) (fun t42 _ => n.down.length - (intOf t42).toNat)
        case atStart => exact ⟨0, _, _, Nat.zero_le _, rfl, M3, F3, D3⟩
        case round =>
          clear M3 F3 D3
          obtain ⟨m, vs2, ab2, hm, rfl, M4, F4, D4⟩ := hrel
          by_cases hlm : m < n.down.length
          · have hdm : n.down[m]? = some n.down[m] := List.getElem?_eq_getElem hlm
            obtain ⟨_, Ad, cd, he, _, hrd⟩ := D4.out
            obtain ⟨bd, od, rfl, _, _, hcd⟩ := hrd (by omega)
            injection he with he _ hc
            subst he hc
            have hcx := hcd m (.int .i64 n.down[m]) (by rw [ints_get, hdm]; rfl)
            have hti := List.take_add_one (l := n.down) (i := m)
            rw [hdm] at hti
            generalize n.down[m] = d at *
            have hin := HI.out n (ndAt_mem HN.out) d (List.mem_of_getElem? hdm)
            obtain ⟨hd0, hd1⟩ := inR_iff.1 hin
            obtain ⟨vd, hvd, hcd2, hfd2, _⟩ := M4.out.rowGet F4.out.al (x := d) ⟨by omega, by omega⟩
            have hshort : (rowAt ab2 d).length ≤ 6 * (k + 1) := short_of_counts 6 (k + 1) _ (fun i hi => by have := F4.out.ain d i hi; omega) (fun i => by
              by_cases hir : inR ns i = true
              · obtain ⟨p, hp, hp2⟩ := ndAt_of hir
                have h6p := H6.out p (List.mem_of_getElem? hp2)
                rw [F4.out.cnt d i p hin hp]
                have e1 : p.down.count d ≤ 6 := Nat.le_trans List.count_le_length (by unfold Nd.down; split; exact (by simp); exact h6p)
                have e2 : (n.down.take m).count d ≤ 6 := Nat.le_trans List.count_le_length (by rw [List.length_take]; omega)
                split
                · exact e1
                · split
                  · exact e2
                  · omega
              · rw [List.count_eq_zero_of_not_mem (fun hmem => hir (inR_iff.2 (by have := F4.out.ain d i hmem; omega)))]
                omega)
            obtain ⟨g4, c4, w4, happ, hcw4, hfw4, M5, hs4, hXk⟩ := M4.out.pushA F4.out.al (x := d) ⟨by omega, by omega⟩ hcd2 (k : Int) (by omega)
            have M6 := Lib.hid M5
            have D6 : Hid (RowR _ 1 X _ _ _) := D4.out.move (F' := X) (fun _ h _ => h) (by simpa [World.setCell] using hs4) (fun i hi _ => hXk i hi)
            have F6 : Hid (FillIn ns k (n.down.take (m + 1)) (ab2.set d.toNat (rowAt ab2 d ++ [(k : Int)]))) := by
              show FillIn _ _ _ _
              rw [hti]
              exact F4.out.step hin
            clear M5 hXk hs4 hdm hti hcd hrd hshort hvd
            go_wp2_with (at_builtin; refine wpList_append_run rfl (.tmp 51) (.tmp 53) 22 rfl rfl rfl happ ?_; clear happ)
            exact ⟨⟨m + 1, _, _, by omega, by go_num, M6, F6, D6⟩, by (simp [intOf]; try omega)⟩
          · have hme : m = n.down.length := by omega
            have F5 : Hid (FillIn ns k n.down ab2) := by
              have := F4.out
              rw [hme, List.take_length] at this
              exact this
            have FN := Lib.hid (HF.out.next HN.out F5.out)
            have M5 := Lib.hid M4.out.noX
            have hfl : free.length ≤ 1 * ns.length := short_of_counts 1 ns.length _ (fun i hi => by have := HF.out.fin i hi; omega) (fun i => List.nodup_iff_count.1 HF.out.nd i)
            clear hme F4 D4 M4
            by_cases h0 : n.down = []
            · have e0 : ((n.down.length : Int) == 0) = true := by rw [h0]; rfl
              have HF0 := Lib.hid h0
              obtain ⟨g5, c5, w5, happ, M6⟩ := M5.out.pushF (k : Int) (by omega)
              have M7 := Lib.hid M6
              have f0 := M5.out.freeRow
              obtain ⟨Af, cf, rfl⟩ := (own_reads f0 (F := fun _ => True) (fun _ _ => trivial)).slice
              have FN2 := FN.out
              rw [if_pos h0] at FN2
              have FN3 := Lib.hid FN2
              clear M6 f0 FN2 h0
              go_wp2_with (at_builtin; refine wpList_append_run rfl (.tmp 60) (.tmp 62) 22 rfl rfl rfl happ ?_; clear happ)
              go_roundw
              case rel => exact ⟨k + 1, _, _, _, _, by omega, by go_num, M7, FN3⟩
              case measure => (simp [intOf]; try omega)
            · have e0 : ((n.down.length : Int) == 0) = false := by
                simp
                exact h0
              have FN2 := FN.out
              rw [if_neg h0] at FN2
              have FN3 := Lib.hid FN2
              clear FN2 h0
              go_wp2_with fail
              go_roundw
              case rel => exact ⟨k + 1, _, _, _, _, by omega, by go_num, M5, FN3⟩
              case measure => (simp [intOf]; try omega)
    · have hke : k = ns.length := by omega
      have KA : Hid (Kahn ns (List.replicate ns.length false) wants free [] ∧ AboveOk ns ab) := by
        have := HF.out
        rw [hke] at this
        exact this.kahn
      have HK0 := Lib.hid KA.out.1
      have HA := Lib.hid KA.out.2
      clear hke KA HF hwo
      go_wp2_with fail
      go_loopg [5, 11] ((List.replicate ns.length false).count false) (fun gk t5 t11 wr => ∃ (g : List Bool) (wants free : List Int), gk = g.count false ∧ t11 = .int .i64 ((ns.length : Int) - g.count false) ∧ Hid (KMem No vs w wr (.slice A1 ns.length c1) (.slice A2 ns.length c2) t5 ns.length wants ab free) ∧ Hid (Kahn ns g wants free []))
      case atStart => exact ⟨_, _, _, rfl, by simp, HM, HK0⟩
      case round =>
        clear HM HK0
        obtain ⟨g, wants, free, hgk, rfl, HM, HK⟩ := hrel
        have HG := Lib.hid hgk
        have hcl : g.count false ≤ ns.length := by have := HK.out.ok.1; have := List.count_le_length (a := false) (l := g); omega
        clear hgk
        rcases List.eq_nil_or_concat free with rfl | ⟨tl, x, rfl⟩
        · have f0 := HM.out.freeRow
          obtain ⟨Af, cf, rfl⟩ := (own_reads f0 (F := fun _ => True) (fun _ _ => trivial)).slice
          have hfin : Hid (b = decide ((ns.length : Int) - g.count false < ns.length)) := by
            show _ = _
            rw [Bool.eq_iff_iff, HB.out, ← HK.out.done HI.out, decide_eq_true_iff]
            omega
          clear f0
          go_wp2_with fail
          go_ret
          rw [hfin.out]
          exact ⟨rfl, HM.out.kept⟩
        · rw [List.concat_eq_append] at HM HK
          have hx := HK.out.inn x (by simp)
          obtain ⟨hx0, hx1⟩ := inR_iff.1 hx
          obtain ⟨gf, cf, rfl, hcf, hcell, M2⟩ := HM.out.popF
          obtain ⟨ga, ca, hea⟩ := HM.out.form (k := x.toNat) (by omega)
          injection hea with hea _ hca
          subst hea hca
          obtain ⟨v, hvs, hcv, _, hrow⟩ := HM.out.rowGet HA.out.len (x := x) ⟨hx0, by omega⟩
          obtain ⟨Av, cv, rfl⟩ := (own_reads hrow (F := fun _ => True) (fun _ _ => trivial)).slice
          obtain ⟨K2, hcnt, hz⟩ := HK.out.pop HI.out HA.out
          have HM2 := Lib.hid M2
          have HK2 : Hid (Kahn ns (g.set x.toNat true) wants tl ((rowAt ab x).drop 0)) := K2
          have HZ2 := Lib.hid hz
          have HV := Lib.hid hvs
          have hcl2 : (g.set x.toNat true).count false + 1 ≤ ns.length := by omega
          have HC := Lib.hid hcnt
          have htl : tl.length ≤ 1 * ns.length := short_of_counts 1 ns.length _ (fun i hi => inR_iff.1 (K2.inn i hi)) (fun i => List.nodup_iff_count.1 K2.nd i)
          have hAC : Hid (∀ (i : Int) (p : Nd), ndAt ns i = some p → (rowAt ab x).count i ≤ 6) := fun i p hp => by
            rw [HA.out.cnt x i p hx hp]
            have := H6.out p (ndAt_mem hp)
            exact Nat.le_trans List.count_le_length (by unfold Nd.down; split; exact (by simp); exact this)
          have hrl : (rowAt ab x).length ≤ 6 * ns.length := short_of_counts 6 ns.length _ (fun i hi => inR_iff.1 (HA.out.inn x i hi)) (fun i => by
            by_cases hir : inR ns i = true
            · obtain ⟨p, hp, _⟩ := ndAt_of hir
              exact hAC.out i p hp
            · rw [List.count_eq_zero_of_not_mem (fun hmem => hir (HA.out.inn x i hmem))]
              omega)
          clear M2 K2 hz hvs hrow hcnt hx
          generalize hrw : rowAt ab x = row at *
          have HRW := Lib.hid hrw
          clear hrw
          go_wp2_with fail
          go_loopw [5, 86] (fun t5 t86 wr => ∃ (m : Nat) (wants2 free2 : List Int), m ≤ row.length ∧ t86 = .int .i64 m ∧ Hid (KMem No vs w wr (.slice A1 ns.length c1) (.slice (some ⟨ga, 0, none⟩) ns.length c2) t5 ns.length wants2 ab free2) ∧ Hid (Kahn ns (g.set x.toNat true) wants2 free2 (row.drop m)) ∧ Hid (∀ y, sees (g.set x.toNat true) y = true → inR ns y = true → at0 wants2 y = 0)) (fun _ t86 _ => row.length - (intOf t86).toNat)
          case atStart => exact ⟨0, _, _, Nat.zero_le _, rfl, HM2, HK2, HZ2⟩
          case round =>
            clear HM2 HK2 HZ2
            obtain ⟨m, wants2, free2, hm, rfl, HM2, HK2, HZ2⟩ := hrel
            by_cases hlm : m < row.length
            · have hdr : row.drop m = row[m] :: row.drop (m + 1) := List.drop_eq_getElem_cons hlm
              have hri : row[m]? = some row[m] := List.getElem?_eq_getElem hlm
              have hcount : row.count row[m] ≥ (row.drop m).count row[m] := (List.drop_sublist m row).count_le _
              obtain ⟨v2, hv2, hcv2, _, hrow2⟩ := HM2.out.rowGet HA.out.len (x := x) ⟨hx0, by omega⟩
              rw [HV.out] at hv2
              injection hv2 with hv2
              subst hv2
              rw [HRW.out] at hrow2
              obtain ⟨gr, cr, u, he, hu, hcu, _, _, _⟩ := own_get hrow2 (i := m) (by omega)
              injection he with he _ hc
              subst he hc
              rw [ints_get, hri] at hu
              simp only [Option.map_some, Option.some.injEq] at hu
              rw [← hu] at hcu
              have K3 := HK2.out
              rw [hdr] at K3 hcount
              generalize row[m] = i at *
              obtain ⟨hpos, ⟨hi0, hi1⟩, K4, Z4⟩ := K3.tell HZ2.out
              obtain ⟨gw, cw, he, hcw, hfw, _⟩ := HM2.out.formW K3.wl (x := i) ⟨by omega, by omega⟩
              injection he with he _ hc
              subst he hc
              have hle : at0 wants2 i ≤ 12 := by
                obtain ⟨p, hp, hp2⟩ := ndAt_of (inR_iff.2 ⟨hi0, hi1⟩ : inR ns i = true)
                have h1 := K3.ws i p hp
                have h2 := hAC.out i p hp
                have h3 : left (g.set x.toNat true) p.down ≤ 6 := Nat.le_trans List.countP_le_length (by unfold Nd.down; split; exact (by simp); exact H6.out p (ndAt_mem hp))
                omega
              have M4 := Lib.hid (HM2.out.storeW K3.wl i.toNat (at0 wants2 i - 1))
              have HZ4 := Lib.hid Z4
              have hil : i.toNat < wants2.length := by rw [K3.wl]; omega
              have f0 := M4.out.freeRow
              obtain ⟨Af, cf, rfl⟩ := (own_reads f0 (F := fun _ => True) (fun _ _ => trivial)).slice
              have hfl2 : free2.length ≤ 1 * ns.length := short_of_counts 1 ns.length _ (fun i hi => inR_iff.1 (K3.inn i hi)) (fun i => List.nodup_iff_count.1 K3.nd i)
              by_cases h0 : at0 wants2 i - 1 = 0
              · rw [if_pos h0] at K4
                have HK4 := Lib.hid K4
                have e0 : (at0 wants2 i - 1 == 0) = true := by simpa using h0
                obtain ⟨g5, c5, w5, happ, M5⟩ := M4.out.pushF i (by omega)
                have HM5 := Lib.hid M5
                simp only [World.size_setCell] at happ
                clear K3 K4 Z4 M5 f0 hdr hri hcount hu hrow2 hcv2 h0
                go_wp2_with (at_builtin; refine wpList_append_run rfl (.tmp 101) (.tmp 103) 22 rfl rfl rfl happ ?_; clear happ)
                go_roundw
                case rel => exact ⟨m + 1, _, _, by omega, by go_num, HM5, HK4, HZ4⟩
                case measure => (simp [intOf]; try omega)
              · rw [if_neg h0] at K4
                have HK4 := Lib.hid K4
                have e0 : (at0 wants2 i - 1 == 0) = false := by simpa using h0
                clear K3 K4 Z4 f0 hdr hri hcount hu hrow2 hcv2 h0
                go_wp2_with fail
                go_roundw
                case rel => exact ⟨m + 1, _, _, by omega, by go_num, M4, HK4, HZ4⟩
                case measure => (simp [intOf]; try omega)
            · have hme : m = row.length := by omega
              have HK5 : Hid (Kahn ns (g.set x.toNat true) wants2 free2 []) := by
                have := HK2.out
                rw [hme, List.drop_length] at this
                exact this
              clear hme HK2
              go_wp2_with fail
              go_roundg ((g.set x.toNat true).count false)
              case measure => have := HC.out; rw [HG.out]; omega
              case rel => exact ⟨_, _, _, rfl, by have := HC.out; congr 1; omega, HM2, HK5⟩
end Go.Proofs.Ytooalgnppnmeaaa
