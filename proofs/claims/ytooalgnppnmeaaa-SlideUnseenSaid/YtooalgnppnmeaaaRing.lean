/- The document's Ring. -/
import Derived.Test.YtooalgnppnmeaaaR1
import Derived.Test.YtooalgnppnmeaaaRingP
namespace Go.Proofs.Ytooalgnppnmeaaa
open Go.RowKit

structure RingMem (w0 w : World) (sv : Value) (ns : List Nd) (s : List Bool) : Prop where
  own : w.ownsRow w0.heap.size 4 1 sv ns.length (bools s)
  ok : SoundOk ns s
  kept : Kept No w0 w

theorem RingMem.get {w0 w : World} {sv : Value} {ns : List Nd} {s : List Bool} (h : RingMem w0 w sv ns s) {x : Int} (hx : 0 ≤ x ∧ x < ns.length) :
    ∃ g c, sv = .slice (some ⟨g, 0, none⟩) ns.length c ∧ w.cell? ⟨g, x.toNat, none⟩ = some (.bool (sees s x)) ∧ w.frozen? ⟨g, x.toNat, none⟩ = false ∧ w0.heap.size ≤ g := by
  obtain ⟨g, c, u, e, hu, hc, hf, hg, _⟩ := own_get h.own (i := x.toNat) (by omega)
  rw [bools_get, sees_get (by rw [h.ok.1]; omega)] at hu
  simp only [Option.map_some, Option.some.injEq] at hu
  exact ⟨g, c, e, by rw [hu]; exact hc, hf, hg⟩
theorem RingMem.cell {w0 w : World} {g c : Nat} {ns : List Nd} {s : List Bool} (h : RingMem w0 w (.slice (some ⟨g, 0, none⟩) ns.length c) ns s) {x : Int} (hx : 0 ≤ x ∧ x < ns.length) :
    w.cell? ⟨g, x.toNat, none⟩ = some (.bool (sees s x)) ∧ w.frozen? ⟨g, x.toNat, none⟩ = false := by
  obtain ⟨g', c', e, hc, hf, _⟩ := h.get hx
  injection e with e _ _
  injection e with e
  injection e with e
  subst e
  exact ⟨hc, hf⟩
theorem RingMem.moved {w0 w w' : World} {sv : Value} {ns : List Nd} {s : List Bool} (h : RingMem w0 w sv ns s) (hk : Kept No w w') : RingMem w0 w' sv ns s :=
  ⟨own_kept h.own hk (fun _ _ hn => hn), h.ok, h.kept.thenNo hk⟩
theorem RingMem.store {w0 w : World} {g c : Nat} {ns : List Nd} {s : List Bool} (h : RingMem w0 w (.slice (some ⟨g, 0, none⟩) ns.length c) ns s) (hg : w0.heap.size ≤ g) (hi : Inn ns) {x : Int} {n : Nd} (hn : ndAt ns x = some n) (hx : sees s x = false) (ha : allS s n.down = true) :
    RingMem w0 (w.setCell ⟨g, x.toNat, none⟩ (.bool true)) (.slice (some ⟨g, 0, none⟩) ns.length c) ns (s.set x.toNat true) ∧ (s.set x.toNat true).count false + 1 = s.count false := by
  obtain ⟨h1, h2⟩ := h.own.stored x.toNat (.bool true)
  rw [bools_set] at h1
  obtain ⟨h3, h4⟩ := h.ok.step hi hn hx ha
  exact ⟨⟨h1, h3, h.kept.setCell (p := ⟨g, x.toNat, none⟩) (.inr hg) _⟩, h4⟩

/-- What a pass over the nodes keeps: s0 is what it began with. -/
def Pass (s0 s : List Bool) (ag : Bool) : Prop := s.count false ≤ s0.count false ∧ (ag = true → s.count false < s0.count false)

set_option maxRecDepth 100000 in
set_option maxHeartbeats 4000000 in
theorem ring_any {F : Nat → Prop} {v : Value} {ns : List Nd} {w : World} (hl : NodesR w F v ns) (hs : Sane ns) (hlen : ns.length ≤ 4000) (b : Bool) (hb : b = true ↔ ¬ Acyc ns) :
    Calls Try.prog 29 #[v] w (RetBool w b) := by
  obtain ⟨A, c, rfl⟩ := hl.slice
  have HL := Lib.hid hl
  have HI : Hid (Inn ns) := hs.inn
  have H6 := Lib.hid hs.few
  have HB := Lib.hid hb
  clear hl hs hb
  obtain ⟨sv, w1, hmk, ⟨A1, c1, rfl⟩, ho1, hg1⟩ := run_make_one (P := Try.prog) (z := .bool false) Try.underlying83 info4 rfl ns.length (by omega) (by omega) w
  have M1 : Hid (RingMem w w1 (.slice A1 ns.length c1) ns (List.replicate ns.length false)) := ⟨by simpa [bools] using ho1, SoundOk.begin ns, Kept.of_grown hg1 (by simp)⟩
  clear ho1 hg1
  go_enter Try.func29, Try.ntmps29
  go_wp2_with fail
  clear hmk
  go_loopg [4] (2 * (List.replicate ns.length false).count false + 1) (fun gk t4 wr => ∃ (s : List Bool) (ag : Bool), t4 = .bool ag ∧ gk = 2 * s.count false + (if ag = true then 1 else 0) ∧ Hid (RingMem w wr (.slice A1 ns.length c1) ns s) ∧ Hid (ag = false → ∀ x : Int, inR ns x = true → StuckAt ns s x))
  case atStart => exact ⟨_, true, rfl, by simp, M1, fun h => nomatch h⟩
  case round =>
    obtain ⟨s, ag, rfl, hgk, HM, HS⟩ := hrel
    have HG := Lib.hid hgk
    clear hgk M1
    cases ag with
    | true =>
      go_wp2_with fail
      go_loopw [4, 5] (fun t4 t5 wr => ∃ (s2 : List Bool) (ag : Bool) (x : Int), t4 = .bool ag ∧ t5 = .int .i64 x ∧ 0 ≤ x ∧ x ≤ ns.length ∧ Hid (RingMem w wr (.slice A1 ns.length c1) ns s2) ∧ Hid (Pass s s2 ag) ∧ Hid (ag = false → ∀ y : Int, 0 ≤ y → y < x → StuckAt ns s2 y)) (fun _ t5 _ => ns.length - (intOf t5).toNat)
      case atStart => exact ⟨s, false, 0, rfl, rfl, by omega, by omega, HM, ⟨Nat.le_refl _, by simp⟩, fun _ y h1 h2 => absurd h2 (by omega)⟩
      case round =>
        obtain ⟨s2, ag, x, rfl, rfl, hx0, hx1, HM2, HP2, HS2⟩ := hrel
        obtain ⟨wo, hwo⟩ : ∃ wo : World, wo = wr := ⟨_, rfl⟩
        by_cases hlt : x < ns.length
        · obtain ⟨gs, cs, he, hcu, hfu, hgs⟩ := HM2.out.get (x := x) ⟨by omega, by omega⟩
          injection he with he _ hc
          subst he hc
          clear hwo
          cases hse : sees s2 x with
          | true =>
            rw [hse] at hcu
            have HS3 : Hid (ag = false → ∀ y : Int, 0 ≤ y → y < x + 1 → StuckAt ns s2 y) := fun h y h1 h2 => by
              by_cases hyx : y = x
              · subst hyx; intro n _ hs; rw [hse] at hs; cases hs
              · exact HS2.out h y h1 (by omega)
            clear hse
            go_wp2_with fail
            go_roundw
            case rel => exact ⟨s2, ag, x + 1, rfl, rfl, by omega, by omega, HM2, HP2, HS3⟩
            case measure => (simp [intOf]; try omega)
          | false =>
            rw [hse] at hcu
            obtain ⟨n, hn1, hn2⟩ := ndAt_of (inR_iff.2 ⟨by omega, by omega⟩ : inR ns x = true)
            obtain ⟨b1, o1, c2, av, he, _, _, m0, m1, m2, m3, m4, hrow⟩ := (HL.out.keptNo HM2.out.kept).at_ hn2
            injection he with he _ hc
            subst he hc
            have h6 := H6.out n (List.mem_of_getElem? hn2)
            have hdl : n.down.length ≤ 6 := by unfold Nd.down; split; exact (by simp); exact h6
            have HN := Lib.hid hn1
            have HSE := Lib.hid hse
            have HR := Lib.hid hrow
            have hx3 : x < ns.length := by omega
            have hx4 : 0 ≤ x := by omega
            clear hn1 hn2 hse hrow h6
            go_wp2_with fail
            refine (down_any HR.out).mono ?_
            rintro e w2 ⟨dv, rfl, hd, k2⟩
            obtain ⟨Ad, cd, rfl⟩ := hd.slice
            have HD := Lib.hid hd
            have HM3 := Lib.hid (HM2.out.moved k2)
            obtain ⟨hcu2, hfu2⟩ := HM3.out.cell (x := x) ⟨hx4, hx3⟩
            rw [HSE.out] at hcu2
            clear hfu
            clear k2 hd hcu m0 m1 m2 m3 m4
            go_wp2_with fail
            have sees_d : Hid (∀ (m : Nat) (d : Int), n.down[m]? = some d → (0 ≤ d ∧ d < ns.length)) := fun m d hd => inR_iff.1 (HI.out n (ndAt_mem HN.out) d (List.mem_of_getElem? hd))
            go_loop [6, 8] (fun t6 t8 => ∃ m : Nat, m ≤ n.down.length ∧ t8 = .int .i64 m ∧ t6 = .bool (allS s2 (n.down.take m))) (fun _ t8 => n.down.length - (intOf t8).toNat)
            case atStart => exact ⟨0, Nat.zero_le _, rfl, rfl⟩
            case round =>
              obtain ⟨m, hm, rfl, rfl⟩ := hrel
              by_cases hml : m < n.down.length
              · have hdm : n.down[m]? = some n.down[m] := List.getElem?_eq_getElem hml
                obtain ⟨_, Ad2, cd2, he, _, hrd⟩ := HD.out
                obtain ⟨bd, od, rfl, _, _, hcd⟩ := hrd (by omega)
                injection he with he _ hc
                subst he hc
                have hcx := hcd m (.int .i64 n.down[m]) (by rw [ints_get, hdm]; rfl)
                obtain ⟨hd0, hd1⟩ := sees_d.out m _ hdm
                have htk : n.down.take (m + 1) = n.down.take m ++ [n.down[m]] := by rw [List.take_add_one, hdm]; rfl
                have HT := Lib.hid (congrArg (allS s2) htk |>.trans (allS_snoc _ _ _))
                obtain ⟨hcd2, _⟩ := HM3.out.cell (x := n.down[m]) ⟨hd0, hd1⟩
                clear hcd hrd hdm htk
                generalize n.down[m] = d at *
                cases hal : allS s2 (n.down.take m) with
                | true =>
                  have HT2 : Hid (allS s2 (n.down.take (m + 1)) = sees s2 d) := by
                    show _ = _
                    rw [HT.out, hal]; rfl
                  clear hal
                  go_wp2_with fail
                  exact ⟨⟨m + 1, by omega, by go_num, by rw [HT2.out]⟩, by (simp [intOf]; try omega)⟩
                | false =>
                  have HT2 : Hid (allS s2 (n.down.take (m + 1)) = false) := by
                    show _ = _
                    rw [HT.out, hal]; rfl
                  clear hal
                  go_wp2_with fail
                  go_round
                  case rel => exact ⟨m + 1, by omega, by go_num, by rw [HT2.out]⟩
                  case measure => (simp [intOf]; try omega)
              · have hme : m = n.down.length := by omega
                have hal : allS s2 (n.down.take m) = allS s2 n.down := by rw [hme, List.take_length]
                rw [hal]
                clear hme hal
                cases hfa : allS s2 n.down with
                | true =>
                  obtain ⟨hm3, hcn⟩ := HM3.out.store hgs HI.out HN.out HSE.out hfa
                  have HM4 := Lib.hid hm3
                  have HP4 : Hid (Pass s (s2.set x.toNat true) true) := ⟨by have := HP2.out.1; omega, fun _ => by have := HP2.out.1; omega⟩
                  clear hm3 hcn hfa
                  go_wp2_with fail
                  go_roundw
                  case rel => exact ⟨s2.set x.toNat true, true, x + 1, rfl, rfl, by omega, by omega, HM4, HP4, fun h => nomatch h⟩
                  case measure => (simp [intOf]; try omega)
                | false =>
                  have HS3 : Hid (ag = false → ∀ y : Int, 0 ≤ y → y < x + 1 → StuckAt ns s2 y) := fun h y h1 h2 => by
                    by_cases hyx : y = x
                    · subst hyx; intro m hm _; rw [HN.out] at hm; injection hm with hm; subst hm; exact hfa
                    · exact HS2.out h y h1 (by omega)
                  clear hfa
                  go_wp2_with fail
                  go_roundw
                  case rel => exact ⟨s2, ag, x + 1, rfl, rfl, by omega, by omega, HM3, HP2, HS3⟩
                  case measure => (simp [intOf]; try omega)
        · have HS3 : Hid (ag = false → ∀ y : Int, inR ns y = true → StuckAt ns s2 y) := fun h y hy => HS2.out h y (inR_iff.1 hy).1 (by have := (inR_iff.1 hy).2; omega)
          have hxe := hx0
          clear HS2 hwo hx0
          go_wp2_with fail
          go_loopw [4, 9] (fun t4 t9 wr => ∃ (s2 : List Bool) (ag : Bool) (x : Int), t4 = .bool ag ∧ t9 = .int .i64 x ∧ -1 ≤ x ∧ x < ns.length ∧ Hid (RingMem w wr (.slice A1 ns.length c1) ns s2) ∧ Hid (Pass s s2 ag) ∧ Hid (ag = false → ∀ y : Int, inR ns y = true → StuckAt ns s2 y)) (fun _ t9 _ => (intOf t9 + 1).toNat)
          case atStart => exact ⟨s2, ag, (ns.length : Int) - 1, rfl, rfl, by omega, by omega, HM2, HP2, HS3⟩
          case round =>
            clear HM2 HP2 HS3 hxe hlt hx1
            obtain ⟨s2, ag, x, rfl, rfl, hx0, hx1, HM2, HP2, HS2⟩ := hrel
            obtain ⟨wo, hwo⟩ : ∃ wo : World, wo = wr := ⟨_, rfl⟩
            by_cases hlt : 0 ≤ x
            · obtain ⟨gs, cs, he, hcu, hfu, hgs⟩ := HM2.out.get (x := x) ⟨by omega, by omega⟩
              injection he with he _ hc
              subst he hc
              clear hwo
              cases hse : sees s2 x with
              | true =>
                rw [hse] at hcu
                have HS3 := HS2
                clear hse
                go_wp2_with fail
                go_roundw
                case rel => exact ⟨s2, ag, x - 1, rfl, rfl, by omega, by omega, HM2, HP2, HS3⟩
                case measure => (simp [intOf]; try omega)
              | false =>
                rw [hse] at hcu
                obtain ⟨n, hn1, hn2⟩ := ndAt_of (inR_iff.2 ⟨by omega, by omega⟩ : inR ns x = true)
                obtain ⟨b1, o1, c2, av, he, _, _, m0, m1, m2, m3, m4, hrow⟩ := (HL.out.keptNo HM2.out.kept).at_ hn2
                injection he with he _ hc
                subst he hc
                have h6 := H6.out n (List.mem_of_getElem? hn2)
                have hdl : n.down.length ≤ 6 := by unfold Nd.down; split; exact (by simp); exact h6
                have HN := Lib.hid hn1
                have HSE := Lib.hid hse
                have HR := Lib.hid hrow
                have hx3 : x < ns.length := by omega
                have hx4 : 0 ≤ x := by omega
                clear hn1 hn2 hse hrow h6
                go_wp2_with fail
                refine (down_any HR.out).mono ?_
                rintro e w2 ⟨dv, rfl, hd, k2⟩
                obtain ⟨Ad, cd, rfl⟩ := hd.slice
                have HD := Lib.hid hd
                have HM3 := Lib.hid (HM2.out.moved k2)
                obtain ⟨hcu2, hfu2⟩ := HM3.out.cell (x := x) ⟨hx4, hx3⟩
                rw [HSE.out] at hcu2
                clear hfu
                clear k2 hd hcu m0 m1 m2 m3 m4
                go_wp2_with fail
                have sees_d : Hid (∀ (m : Nat) (d : Int), n.down[m]? = some d → (0 ≤ d ∧ d < ns.length)) := fun m d hd => inR_iff.1 (HI.out n (ndAt_mem HN.out) d (List.mem_of_getElem? hd))
                go_loop [10, 12] (fun t6 t8 => ∃ m : Nat, m ≤ n.down.length ∧ t8 = .int .i64 m ∧ t6 = .bool (allS s2 (n.down.take m))) (fun _ t8 => n.down.length - (intOf t8).toNat)
                case atStart => exact ⟨0, Nat.zero_le _, rfl, rfl⟩
                case round =>
                  obtain ⟨m, hm, rfl, rfl⟩ := hrel
                  by_cases hml : m < n.down.length
                  · have hdm : n.down[m]? = some n.down[m] := List.getElem?_eq_getElem hml
                    obtain ⟨_, Ad2, cd2, he, _, hrd⟩ := HD.out
                    obtain ⟨bd, od, rfl, _, _, hcd⟩ := hrd (by omega)
                    injection he with he _ hc
                    subst he hc
                    have hcx := hcd m (.int .i64 n.down[m]) (by rw [ints_get, hdm]; rfl)
                    obtain ⟨hd0, hd1⟩ := sees_d.out m _ hdm
                    have htk : n.down.take (m + 1) = n.down.take m ++ [n.down[m]] := by rw [List.take_add_one, hdm]; rfl
                    have HT := Lib.hid (congrArg (allS s2) htk |>.trans (allS_snoc _ _ _))
                    obtain ⟨hcd2, _⟩ := HM3.out.cell (x := n.down[m]) ⟨hd0, hd1⟩
                    clear hcd hrd hdm htk
                    generalize n.down[m] = d at *
                    cases hal : allS s2 (n.down.take m) with
                    | true =>
                      have HT2 : Hid (allS s2 (n.down.take (m + 1)) = sees s2 d) := by
                        show _ = _
                        rw [HT.out, hal]; rfl
                      clear hal
                      go_wp2_with fail
                      exact ⟨⟨m + 1, by omega, by go_num, by rw [HT2.out]⟩, by (simp [intOf]; try omega)⟩
                    | false =>
                      have HT2 : Hid (allS s2 (n.down.take (m + 1)) = false) := by
                        show _ = _
                        rw [HT.out, hal]; rfl
                      clear hal
                      go_wp2_with fail
                      go_round
                      case rel => exact ⟨m + 1, by omega, by go_num, by rw [HT2.out]⟩
                      case measure => (simp [intOf]; try omega)
                  · have hme : m = n.down.length := by omega
                    have hal : allS s2 (n.down.take m) = allS s2 n.down := by rw [hme, List.take_length]
                    rw [hal]
                    clear hme hal
                    cases hfa : allS s2 n.down with
                    | true =>
                      obtain ⟨hm3, hcn⟩ := HM3.out.store hgs HI.out HN.out HSE.out hfa
                      have HM4 := Lib.hid hm3
                      have HP4 : Hid (Pass s (s2.set x.toNat true) true) := ⟨by have := HP2.out.1; omega, fun _ => by have := HP2.out.1; omega⟩
                      clear hm3 hcn hfa
                      go_wp2_with fail
                      go_roundw
                      case rel => exact ⟨s2.set x.toNat true, true, x - 1, rfl, rfl, by omega, by omega, HM4, HP4, fun h => nomatch h⟩
                      case measure => (simp [intOf]; try omega)
                    | false =>
                      have HS3 := HS2
                      clear hfa
                      go_wp2_with fail
                      go_roundw
                      case rel => exact ⟨s2, ag, x - 1, rfl, rfl, by omega, by omega, HM3, HP2, HS3⟩
                      case measure => (simp [intOf]; try omega)
            · clear hwo hx0
              go_wp2_with fail
              go_roundg (2 * s2.count false + (if ag = true then 1 else 0))
              case measure =>
                rw [HG.out]
                have h1 := HP2.out.1
                have h2 := HP2.out.2
                cases ag with
                | true => have := h2 rfl; simp; omega
                | false => simp; omega
              case rel => exact ⟨s2, ag, rfl, rfl, HM2, HS2⟩
    | false =>
      go_wp2_with fail
      go_loop [13] (fun t13 => ∃ k : Nat, k ≤ ns.length ∧ t13 = .int .i64 k ∧ Hid (∀ j : Int, 0 ≤ j → j < k → sees s j = true)) (fun t13 => ns.length - (intOf t13).toNat)
      case atStart => exact ⟨0, Nat.zero_le _, rfl, fun j h1 h2 => absurd h2 (by omega)⟩
      case round =>
        obtain ⟨k, hk, rfl, HJ⟩ := hrel
        by_cases hlt : k < ns.length
        · obtain ⟨gs, cs, he, hcu, _, _⟩ := HM.out.get (x := (k : Int)) ⟨by omega, by omega⟩
          injection he with he _ hc
          subst he hc
          rw [Int.toNat_natCast] at hcu
          cases hse : sees s k with
          | true =>
            rw [hse] at hcu
            have HJ2 : Hid (∀ j : Int, 0 ≤ j → j < (k + 1 : Nat) → sees s j = true) := fun j h1 h2 => by
              by_cases hjk : j = k
              · subst hjk; exact hse
              · exact HJ.out j h1 (by omega)
            clear hse
            go_wp2_with fail
            go_round
            case rel => exact ⟨k + 1, by omega, by go_num, HJ2⟩
            case measure => (simp [intOf]; try omega)
          | false =>
            rw [hse] at hcu
            have hb : b = true := HB.out.2 (fun hA => by
              have := stuck_all HI.out (HS.out (by first | rfl | trivial)) hA k (inR_iff.2 ⟨by omega, by omega⟩)
              rw [hse] at this
              cases this)
            have HF := Lib.hid hb
            clear hse hb
            go_wp2_with fail
            go_ret
            rw [HF.out]
            exact ⟨rfl, HM.out.kept⟩
        · have hb : b = false := by
            cases hb : b with
            | false => rfl
            | true => exact absurd (HM.out.ok.all (fun x hx => HJ.out x (inR_iff.1 hx).1 (by have := (inR_iff.1 hx).2; omega))) (HB.out.1 hb)
          have HF := Lib.hid hb
          clear hb
          go_wp2_with fail
          go_ret
          rw [HF.out]
          exact ⟨rfl, HM.out.kept⟩
end Go.Proofs.Ytooalgnppnmeaaa
