/- HeapRings: the walk. -/
import Derived.Test.YtooalgnppnmeaaaL11c
import Derived.Test.YtooalgnppnmeaaaRing
namespace Go.Proofs.Ytooalgnppnmeaaa
open Go.RowKit

theorem good_short {room : Int} {ns : List Nd} (h : Good room ns) (hr : room ≤ 4000) : Short ns :=
  ⟨by have := h.len; omega, fun n hn => by have := (h.may n hn).2.1; omega⟩

set_option maxRecDepth 100000 in
set_option maxHeartbeats 2000000 in
theorem heapRings_any (room : Int) (v : Value) (rs : List Rw) (w : World) (hroom : I64 room) (hl : RawsR w (fun _ => True) v rs) (hI : ∀ x ∈ rs, x.ok) (hsz : rs.length ≤ 9223372036854775807) :
    Calls Try.prog 4 #[.int .i64 room, v] w (RetYes w) := by
  obtain ⟨A, c, rfl⟩ := RowR.slice hl
  have HL := Lib.hid hl
  have HI := Lib.hid hI
  clear hl hI
  have hp := pickP_range room 200 (by decide)
  go_enter Try.func4, Try.ntmps4
  go_wp2_with fail
  refine (awake11_any _).mono ?_
  rintro e w1 ⟨rfl, k1⟩
  have K1 := Lib.hid k1
  clear k1
  go_wp2_with fail
  refine (grown_any room _ rs _ hroom (RowR.keptNo HL.out K1.out) HI.out hsz).mono ?_
  rintro e w2 ⟨hb, ns, rfl, h2, hg, k2⟩
  have H2 := Lib.hid h2
  have HG := Lib.hid hg
  have K2 := Lib.hid (K1.out.thenNo k2)
  have hr4 : 1 + pickP room 200 ≤ 200 := by omega
  have hlen : ns.length ≤ 200 := by have := hg.len; omega
  have hlen4 : ns.length ≤ 4000 := by omega
  clear h2 hg k2 K1 hp
  go_wp2_with fail
  refine (told_law11 H2.out.1 (Sc.bnd _ _) HG.out.sane hlen4).mono ?_
  rintro e w3 ⟨tv, rfl, h3, k3⟩
  obtain ⟨At, ct, rfl⟩ := h3.reads.slice
  have HV := Lib.hid (h3.reads.mono (fun _ _ _ => trivial) : NodesR w3 (fun _ => True) _ ns)
  have H3 := Lib.hid (H2.out.keptNo k3)
  have K3 := Lib.hid (K2.out.thenNo k3)
  clear h3 k3 H2 K2
  go_wp2_with fail
  refine (used_any H3.out.1).mono ?_
  rintro e w4 ⟨rfl, rfl⟩
  go_wp2_with fail
  go_loopw [9] (fun i wr => ∃ k : Nat, k ≤ ns.length ∧ i = .int .i64 k ∧ Hid (Kept No w3 wr)) (fun i _ => ns.length - (intOf i).toNat)
  case atStart => exact ⟨0, by omega, rfl, Kept.refl _ _⟩
  case round =>
    obtain ⟨k, hk, rfl, HK⟩ := hrel
    by_cases hlt : k < ns.length
    · have hx : ns[k]? = some ns[k] := List.getElem?_eq_getElem hlt
      obtain ⟨b, o, c', av, he, _, _, c0, c1, c2, c3, c4, hrow⟩ := (HV.out.keptNo HK.out).at_ hx
      injection he with he _ hc
      subst he hc
      have hin := Lib.hid (fun d hd => inR_iff.1 (HG.out.sane.inn _ (List.mem_of_getElem? hx) d hd))
      have h6 := HG.out.sane.few _ (List.mem_of_getElem? hx)
      have HR := Lib.hid hrow
      have hdl : (ns[k]).down.length ≤ 6 := by unfold Nd.down; split; exact (by simp); exact h6
      clear hx hrow h6
      generalize ns[k] = n at *
      go_wp2_with fail
      refine (down_any HR.out).mono ?_
      rintro e w5 ⟨dv, rfl, hd, k5⟩
      obtain ⟨Ad, cd, rfl⟩ := hd.slice
      have HD := Lib.hid hd
      have K5 := Lib.hid (HK.out.thenNo k5)
      clear hd k5
      go_wp2_with fail
      go_loop [11] (fun i => ∃ j : Nat, j ≤ n.down.length ∧ i = .int .i64 j) (fun i => n.down.length - (intOf i).toNat)
      case atStart => exact ⟨0, by omega, rfl⟩
      case round =>
        obtain ⟨j, hj, rfl⟩ := hrel
        by_cases hjl : j < n.down.length
        · have hdj : n.down[j]? = some n.down[j] := List.getElem?_eq_getElem hjl
          obtain ⟨_, Ad2, cd2, he, _, hrd⟩ := HD.out
          obtain ⟨bd, od, rfl, _, _, hcd⟩ := hrd (by omega)
          injection he with he _ hc
          subst he hc
          have hcx := hcd j (.int .i64 n.down[j]) (by rw [ints_get, hdj]; rfl)
          obtain ⟨hd0, hd1⟩ := hin.out _ (List.mem_of_getElem? hdj)
          clear hcd hrd hdj
          generalize n.down[j] = d at *
          go_wp2_with fail
          first
            | exact ⟨⟨j + 1, by omega, by go_num⟩, by (simp [intOf]; try omega)⟩
            | (go_round
               case rel => exact ⟨j + 1, by omega, by go_num⟩
               case measure => (simp [intOf]; try omega))
        · go_wp2_with fail
          go_roundw
          case rel => exact ⟨k + 1, by omega, by go_num, K5⟩
          case measure => (simp [intOf]; try omega)
    · go_wp2_with fail
      refine (ring_any (HV.out.keptNo HK.out) HG.out.sane hlen4 false (by simpa using HG.out.acyc)).mono ?_
      rintro e w5 ⟨rfl, k5⟩
      have K5 := Lib.hid ((K3.out.thenNo HK.out).thenNo k5)
      clear k5
      go_wp2_with fail
      go_ret
      exact ⟨rfl, K5.out⟩
end Go.Proofs.Ytooalgnppnmeaaa
