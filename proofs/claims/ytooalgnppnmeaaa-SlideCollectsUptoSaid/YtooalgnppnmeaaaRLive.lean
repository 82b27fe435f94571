/- The document's Live. -/
import Derived.Test.YtooalgnppnmeaaaSlideQ
import Derived.Test.YtooalgnppnmeaaaRH4
namespace Go.Proofs.Ytooalgnppnmeaaa
open Go.RowKit

theorem reach_rt {ns : List Nd} {is : List Int} (hs : Sane ns) (hi : IsL ns is) {x a b : Int} {n : Nd} (h : Reach ns x a) (hb : Is ns x b) (ha : ndAt ns a = some n) (hp : n.pts = false) : RT (nextI ns is) b a := by
  induction h generalizing b with
  | refl =>
    have := hb.unique (.app ha hp)
    subst this
    exact .refl _
  | @step x d a m h1 h2 _ ih =>
    cases hb with
    | @app _ m' h3 h4 =>
      rw [h1] at h3
      injection h3 with h3
      subst h3
      have hd : d ∈ m.args := by
        unfold Nd.down at h2
        rw [h4] at h2
        simpa using h2
      have hdi : inR ns d = true := hs.arg (ndAt_mem h1) hd
      refine .step ?_ (ih (hi.is hdi) ha)
      unfold nextI
      rw [h1]
      exact List.mem_map.2 ⟨d, hd, rfl⟩
    | @ptr _ _ m' h3 h4 h5 =>
      rw [h1] at h3
      injection h3 with h3
      subst h3
      have hd : d = m.to := by
        unfold Nd.down at h2
        rw [h4] at h2
        simpa using h2
      subst hd
      exact ih h5 ha
theorem rt_reach {ns : List Nd} {is : List Int} (hs : Sane ns) (hi : IsL ns is) {x a : Int} (h : RT (nextI ns is) x a) (happ : ∃ n, ndAt ns x = some n ∧ n.pts = false) : Reach ns x a ∧ ∃ n, ndAt ns a = some n ∧ n.pts = false := by
  induction h with
  | refl => exact ⟨.refl _, happ⟩
  | @step x d a h1 _ ih =>
    obtain ⟨n, hn, hp⟩ := happ
    unfold nextI at h1
    rw [hn] at h1
    obtain ⟨y, hy, rfl⟩ := List.mem_map.1 h1
    have hyi := hs.arg (ndAt_mem hn) hy
    obtain ⟨r1, r2⟩ := ih (hi.is hyi).end_
    refine ⟨(Reach.one hn ?_).trans ((hi.is hyi).reach.trans r1), r2⟩
    unfold Nd.down
    rw [hp]
    simpa using hy
theorem live_ref {ns : List Nd} {is roots : List Int} (hs : Sane ns) (hi : IsL ns is) (hr : okRoots ns roots = true) {a : Int} {n : Nd} (ha : ndAt ns a = some n) : sees (keepOf ns is roots) a = true ↔ (∃ f ∈ roots, Reach ns f a) ∧ n.pts = false := by
  have hai := inR_iff.1 (ndAt_inR ha).1
  rw [keepOf_sees hai]
  constructor
  · rintro ⟨f, hf, hfa⟩
    obtain ⟨r, hr2, rfl⟩ := List.mem_map.1 hf
    have hri := hi.is (List.all_eq_true.1 hr r hr2)
    obtain ⟨r1, m, hm, hp⟩ := rt_reach hs hi hfa hri.end_
    rw [ha] at hm
    injection hm with hm
    exact ⟨⟨r, hr2, hri.reach.trans r1⟩, by rw [hm]; exact hp⟩
  · rintro ⟨⟨f, hf, hfa⟩, hp⟩
    exact ⟨_, List.mem_map.2 ⟨f, hf, rfl⟩, reach_rt hs hi hfa (hi.is (List.all_eq_true.1 hr f hf)) ha hp⟩

set_option maxRecDepth 100000 in
set_option maxHeartbeats 4000000 in
theorem rlive_any {F G : Nat → Prop} {hb : Nat} {room : Int} {v : Value} {ns : List Nd} {is roots : List Int} {w : World} (h : RHeapO w F hb room ns) (hs : Sane ns) (hlen : ns.length ≤ 4000) (hi : IsL ns is) (hv : RowR w 1 G v roots.length (ints roots)) (hsz : roots.length ≤ 2000000) :
    Calls Try.prog 42 #[.pointer (some ⟨hb, 0, none⟩), v] w (RetLive w ns is roots) := by
  obtain ⟨Av, cv, rfl⟩ := hv.slice
  have H := Lib.hid h
  have HS := Lib.hid hs
  have HI := Lib.hid hi
  have HV := Lib.hid hv
  clear h hs hi hv
  go_enter Try.func42, Try.ntmps42
  go_wp2_with fail
  go_loopw [6] (fun t6 wr => ∃ k : Nat, k ≤ roots.length ∧ t6 = .int .i64 k ∧ wr = w ∧ Hid (∀ r ∈ roots.take k, inR ns r = true)) (fun t6 _ => roots.length - (intOf t6).toNat)
  case atStart => exact ⟨0, by omega, rfl, rfl, by show ∀ r ∈ _, _; simp⟩
  case round =>
    obtain ⟨k, hk, rfl, rfl, HR⟩ := hrel
    by_cases hlt : k < roots.length
    · have hx : roots[k]? = some roots[k] := List.getElem?_eq_getElem hlt
      have htk : roots.take (k + 1) = roots.take k ++ [roots[k]] := by rw [List.take_add_one, hx]; rfl
      obtain ⟨_, A', cv', he, hcc, hrd⟩ := HV.out
      injection he with hA' _ hc
      obtain ⟨bv, ov, hAv, _, _, hcell⟩ := hrd (by omega)
      have hcl := hcell k (.int .i64 roots[k]) (by rw [ints_get, hx]; rfl)
      subst hA' hc hAv
      generalize roots[k] = r at *
      clear hcell hrd
      cases hr : inR ns r with
      | false =>
        have hok : okRoots ns roots = false := by
          unfold okRoots
          rw [List.all_eq_false]
          exact ⟨r, List.mem_of_getElem? hx, by rw [hr]; simp⟩
        have hfin : Hid (RetLive wr ns is roots (.returned (.tuple #[.slice none 0 0, .int .i64 120])) wr) :=
          ⟨.slice none 0 0, by simp [errOf, hok], by simp only [liveOf, hok]; exact World.ownsRow_nil _ _ _ _, Kept.refl _ _⟩
        have HRr := Lib.hid hr
        clear hx htk hok hr
        go_wp2_with fail
        refine (rhas_any H.out r).mono ?_
        rintro e w2 ⟨rfl, rfl⟩
        rw [HRr.out]
        go_wp2_with fail
        go_ret2
        exact hfin.out
      | true =>
        have HR4 : Hid (∀ r ∈ roots.take (k + 1), inR ns r = true) := by
          show ∀ r ∈ _, _
          rw [htk]
          intro y hy
          rcases List.mem_append.1 hy with hy | hy
          · exact HR.out y hy
          · have : y = r := by simpa using hy
            rw [this]; exact hr
        have HRr := Lib.hid hr
        clear hx htk hr
        go_wp2_with fail
        refine (rhas_any H.out r).mono ?_
        rintro e w2 ⟨rfl, rfl⟩
        rw [HRr.out]
        go_wp2_with fail
        go_roundw
        case rel => exact ⟨k + 1, by omega, by go_num, trivial, HR4⟩
        case measure => (simp [intOf]; try omega)
    · have hke : k = roots.length := by omega
      subst hke
      rw [List.take_length] at HR
      have hok : okRoots ns roots = true := by unfold okRoots; rw [List.all_eq_true]; exact HR.out
      have HOK := Lib.hid hok
      obtain ⟨A, c, hfb, hbl, _, z1, _, hn0⟩ := H.out.open_
      have HU := Lib.hid (runder_any hn0.reads HS.out hlen HV.out (fun f hf => inR_iff.1 (HR.out f hf)) hsz)
      clear hok hn0
      go_wp2_with fail
      refine HU.out.mono ?_
      rintro e w2 ⟨sv, seen, rfl, ho, hsl, hse, k2⟩
      obtain ⟨As, cs, rfl⟩ := (own_reads ho (F := fun _ => True) (fun _ _ => trivial)).slice
      have HO := Lib.hid ho
      have HSE := Lib.hid hse
      have K2 := Lib.hid k2
      obtain ⟨keep, hkp⟩ : ∃ keep, keep = keepOf ns is roots := ⟨_, rfl⟩
      have HKP := Lib.hid hkp
      have HZ : Hid (keep.length = ns.length) := by show _ = _; rw [hkp, keepOf_length]
      have HSL := Lib.hid hsl
      obtain ⟨W0, hW0⟩ : ∃ W0, W0 = wr := ⟨_, rfl⟩
      subst hW0
      clear ho hse k2 hkp z1 HU hsl
      go_wp2_with fail
      go_loopw [8, 9] (fun t8 t9 wx => ∃ k : Nat, k ≤ ns.length ∧ t9 = .int .i64 k ∧ Hid (wx.ownsRow W0.heap.size 3 1 t8 (liveUp keep k).length (ints (liveUp keep k))) ∧ Hid (wx.ownsRow W0.heap.size 4 1 (.slice As ns.length cs) ns.length (bools seen)) ∧ Hid (Kept No W0 wx)) (fun _ t9 _ => ns.length - (intOf t9).toNat)
      case atStart => exact ⟨0, by omega, rfl, World.ownsRow_nil _ _ _ _, HO, K2⟩
      case round =>
        clear HO K2
        obtain ⟨k, hk, rfl, HO, HB, HK⟩ := hrel
        obtain ⟨A2, c2, rfl⟩ := (own_reads HO.out (F := fun _ => True) (fun _ _ => trivial)).slice
        have hll := liveUp_le keep k
        have hsu := liveUp_succ keep k
        by_cases hlt : k < ns.length
        · obtain ⟨gk, ck', he, hcu⟩ := sees_row HB.out HSL.out (x := (k : Int)) ⟨by omega, by omega⟩
          injection he with he _ hc
          subst he hc
          simp only [Int.toNat_natCast] at hcu
          have hn2 : ns[k]? = some ns[k] := List.getElem?_eq_getElem hlt
          have hna : ndAt ns (k : Int) = some ns[k] := by unfold ndAt; rw [if_pos (by omega)]; simp
          have hlr := live_ref HS.out HI.out HOK.out hna
          rw [← HKP.out, ← HSE.out (k : Int) (inR_iff.2 (by omega))] at hlr
          obtain ⟨A, c, _, _, _, z1, _, hn⟩ := (H.out.keptNo HK.out).open_
          obtain ⟨b, o, c', av, he, _, _, m0, m1, m2, m3, m4, _⟩ := hn.reads.at_ hn2
          injection he with he _ hc
          subst he hc
          generalize ns[k] = n at *
          clear hn hn2 hna m0 m1 m2 m4
          by_cases hse : sees keep (k : Int) = true
          · obtain ⟨h1, h2⟩ := hlr.1 hse
            rw [h1] at hcu
            rw [h2] at m3
            rw [if_pos hse] at hsu
            obtain ⟨g4, c4, w4, happ, ho4, k4, _⟩ := int_push HO.out HK.out.size (k : Int) (by omega)
            have HO4 := Lib.hid ho4
            have HSU := Lib.hid hsu
            have HB4 := Lib.hid (own_kept HB.out k4 (fun i hi e => own_ne HO.out HB.out (by decide) i e hi))
            have HK4 := Lib.hid (HK.out.trans k4 (fun i hlt hi => by have := (HO.out.lt i hi).1; omega))
            clear ho4 k4 hsu hse hlr h1 h2
            go_wp2_with (at_builtin; refine wpList_append_run rfl (.tmp 50) (.tmp 52) 22 rfl rfl rfl happ ?_; clear happ)
            go_roundw
            case rel => exact ⟨k + 1, by omega, by go_num, by rw [HSU.out]; simpa using HO4, HB4, HK4⟩
            case measure => (simp [intOf]; try omega)
          · rw [if_neg hse] at hsu
            have HSU := Lib.hid hsu
            cases hq : sees seen (k : Int) with
            | false =>
              rw [hq] at hcu
              clear hsu hse hlr hq
              go_wp2_with fail
              go_roundw
              case rel => exact ⟨k + 1, by omega, by go_num, by rw [HSU.out]; exact HO, HB, HK⟩
              case measure => (simp [intOf]; try omega)
            | true =>
              rw [hq] at hcu
              have hp : n.pts = true := by
                cases hp : n.pts with
                | true => rfl
                | false => exact absurd (hlr.2 ⟨hq, hp⟩) hse
              rw [hp] at m3
              clear hsu hse hlr hq hp
              go_wp2_with fail
              go_roundw
              case rel => exact ⟨k + 1, by omega, by go_num, by rw [HSU.out]; exact HO, HB, HK⟩
              case measure => (simp [intOf]; try omega)
        · have hke : k = ns.length := by omega
          subst hke
          have hfin : Hid (RetLive W0 ns is roots (.returned (.tuple #[.slice A2 (liveUp keep ns.length).length c2, .int .i64 0])) wr) := by
            have e1 : liveOf ns is roots = liveUp keep ns.length := by unfold liveOf; rw [if_pos HOK.out, ← HKP.out]; unfold liveK; rw [HZ.out]
            refine ⟨.slice A2 (liveUp keep ns.length).length c2, by simp [errOf, HOK.out], ?_, HK.out⟩
            rw [e1]
            exact HO.out
          clear hsu hll
          go_wp2_with fail
          go_ret2
          exact hfin.out
end Go.Proofs.Ytooalgnppnmeaaa
