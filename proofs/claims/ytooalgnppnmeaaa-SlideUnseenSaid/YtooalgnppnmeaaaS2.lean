/- SameNodes. -/
import Derived.Test.YtooalgnppnmeaaaS1
import Derived.Deep.RegionLaw
namespace Go.Proofs.Ytooalgnppnmeaaa
open Go.RowKit

/-- The lists inside are short. -/
def Short (ns : List Nd) : Prop := ns.length ≤ 1000000000000 ∧ ∀ n ∈ ns, n.args.length ≤ 9223372036854775807

set_option maxRecDepth 100000 in
set_option maxHeartbeats 1000000 in
theorem sameNodes_any {F G : Nat → Prop} {v u : Value} {ns ms : List Nd} {w : World} (hl : NodesR w F v ns) (hm : NodesR w G u ms) (hs1 : Short ns) (hs2 : Short ms) :
    Calls Try.prog 35 #[v, u] w (RetBool w (decide (ns = ms))) := by
  obtain ⟨A, c, rfl⟩ := hl.slice
  obtain ⟨B, d, rfl⟩ := hm.slice
  have HL := Lib.hid hl
  have HM := Lib.hid hm
  obtain ⟨hz1, hz3⟩ := hs1
  obtain ⟨hz2, hz4⟩ := hs2
  have Z3 := Lib.hid hz3
  have Z4 := Lib.hid hz4
  clear hl hm hz3 hz4
  by_cases hlen : ns.length = ms.length
  · have hbl : ((ns.length : Int) != (ms.length : Int)) = false := by simp [hlen]
    have hle1 : ns.length ≤ ms.length := by omega
    have hle2 : ms.length ≤ ns.length := by omega
    have HE := Lib.hid hlen
    clear hlen
    go_enter Try.func35, Try.ntmps35
    go_wp2_with fail
    go_loopw [5] (fun i wr => ∃ k : Nat, k ≤ ns.length ∧ i = .int .i64 k ∧ Hid (Kept No w wr) ∧ Hid (ns.take k = ms.take k)) (fun i _ => ns.length - (intOf i).toNat)
    case atStart => exact ⟨0, Nat.zero_le _, rfl, Kept.refl _ _, (by simp : ns.take 0 = ms.take 0)⟩
    case round =>
      obtain ⟨k, hk, rfl, HK, HT⟩ := hrel
      by_cases hlt : k < ns.length
      · have hx : ns[k]? = some ns[k] := List.getElem?_eq_getElem hlt
        have hy : ms[k]? = some (ms[k]'(by omega)) := List.getElem?_eq_getElem (by omega)
        obtain ⟨b, o, c', a1, he, _, _, p0, p1, p2, p3, p4, hr1⟩ := (HL.out.keptNo HK.out).at_ hx
        injection he with he _ hc
        subst he hc
        obtain ⟨b2, o2, c2', a2, he, _, _, q0, q1, q2, q3, q4, hr2⟩ := (HM.out.keptNo HK.out).at_ hy
        injection he with he _ hc
        subst he hc
        have s1 := Z3.out _ (List.mem_of_getElem? hx)
        have s2 := Z4.out _ (List.mem_of_getElem? hy)
        have HX := Lib.hid hx
        have HY := Lib.hid hy
        have R1 := Lib.hid hr1
        have R2 := Lib.hid hr2
        clear hx hy hr1 hr2
        generalize ns[k] = x at *
        generalize ms[k]'(by omega) = y at *
        have i1 : (0 : Int) ≤ (k : Int) := by omega
        have i2 : (k : Int) < (ns.length : Int) := by omega
        have i3 : (k : Int) < (ms.length : Int) := by omega
        obtain ⟨A1, d1, rfl⟩ := R1.out.slice
        obtain ⟨A2, d2, rfl⟩ := R2.out.slice
        have hcall := Lib.hid (fun W => fun h => @sameNode_any F G (.slice A1 x.args.length d1) (.slice A2 y.args.length d2) x y W (R1.out.keptNo h) (R2.out.keptNo h) s1 s2)
        clear s1 s2
        by_cases hxy : x = y
        · have hde : decide (x = y) = true := by simpa using hxy
          rw [hde] at hcall
          have HT2 : Hid (ns.take (k + 1) = ms.take (k + 1)) := by
            show _ = _
            rw [List.take_add_one, List.take_add_one, HT.out, HX.out, HY.out, hxy]
          clear hxy hde
          go_wp2_with fail
          go_region_law (first | (go_simp; go_at_call 31; refine (hcall.out _ ((Kept.refl No wr).drew)).mono ?_; rintro e w1 ⟨rfl, k1⟩))
          all_goals
            have K1 := Lib.hid ((HK.out.drew).thenNo k1)
            clear k1
            go_wp2_with fail
            go_roundw
            case rel => exact ⟨k + 1, by omega, by go_num, K1, HT2⟩
            case measure => (simp [intOf]; try omega)
        · have hde : decide (x = y) = false := by simpa using hxy
          rw [hde] at hcall
          have hfin : decide (ns = ms) = false := by
            rw [decide_eq_false_iff_not]
            intro h
            have h1 := HX.out
            rw [h] at h1
            have h2 := HY.out
            rw [h1] at h2
            injection h2 with e
            exact hxy e
          have HF := Lib.hid hfin
          clear hfin hxy hde
          go_wp2_with fail
          go_region_law (first | (go_simp; go_at_call 31; refine (hcall.out _ ((Kept.refl No wr).drew)).mono ?_; rintro e w1 ⟨rfl, k1⟩))
          all_goals
            have K1 := Lib.hid ((HK.out.drew).thenNo k1)
            clear k1
            go_wp2_with fail
            go_ret
            rw [HF.out]
            exact ⟨rfl, K1.out⟩
      · have hke : k = ns.length := by omega
        have hfin : decide (ns = ms) = true := by
          rw [decide_eq_true_iff]
          have := HT.out
          rwa [hke, List.take_length, HE.out, List.take_length] at this
        have HF := Lib.hid hfin
        clear hke hfin
        go_wp2_with fail
        go_ret
        rw [HF.out]
        exact ⟨rfl, HK.out⟩
  · have hbl : ((ns.length : Int) != (ms.length : Int)) = true := by simp; omega
    have hfin : decide (ns = ms) = false := by
      rw [decide_eq_false_iff_not]
      rintro rfl
      exact hlen rfl
    have HF := Lib.hid hfin
    clear hfin
    go_enter Try.func35, Try.ntmps35
    go_wp2_with fail
    go_ret
    rw [HF.out]
    exact ⟨rfl, Kept.refl No w⟩
end Go.Proofs.Ytooalgnppnmeaaa
