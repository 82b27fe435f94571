/- HeapBack: the walk. -/
import Derived.Test.YtooalgnppnmeaaaRefill
import Derived.Test.YtooalgnppnmeaaaL11c
import Derived.Test.YtooalgnppnmeaaaS2
namespace Go.Proofs.Ytooalgnppnmeaaa
open Go.RowKit

theorem refillP_good {room : Int} {ns : List Nd} (h : Good room ns) {r2 : Int} (old : List Nd) (hr : (ns.length : Int) ≤ r2) : refillP r2 old ns = (ns, 0) := by
  unfold refillP
  rw [if_neg (by omega), if_neg (fun h2 => h2 h.may), if_neg (fun h2 => h2 h.acyc)]
theorem refillP_full {ns : List Nd} {r2 : Int} (old : List Nd) (hr : r2 < ns.length) : refillP r2 old ns = (old, 111) := by
  unfold refillP
  rw [if_pos hr]
theorem Short.of {room : Int} {ns : List Nd} (h : Good room ns) (hr : room ≤ 4000) : Short ns := ⟨by have := h.len; omega, fun n hn => by have := (h.may n hn).2.1; omega⟩

set_option maxRecDepth 100000 in
set_option maxHeartbeats 4000000 in
theorem heapBack_any (room : Int) (v : Value) (rs : List Rw) (less : Int) (w : World) (hroom : I64 room) (hl : RawsR w (fun _ => True) v rs) (hI : ∀ x ∈ rs, x.ok) (hsz : rs.length ≤ 9223372036854775807) (hless : I64 less) :
    Calls Try.prog 8 #[.int .i64 room, v, .int .i64 less] w (RetYes w) := by
  obtain ⟨A, c, rfl⟩ := RowR.slice hl
  have HL := Lib.hid hl
  have HI := Lib.hid hI
  clear hl hI
  have hp := pickP_range room 200 (by decide)
  go_enter Try.func8, Try.ntmps8
  go_wp2_with fail
  refine (awake11_any _).mono ?_
  rintro e w1 ⟨rfl, k1⟩
  have K1 := Lib.hid k1
  clear k1
  go_wp2_with fail
  refine (grown_any room _ rs _ hroom (RowR.keptNo HL.out K1.out) HI.out hsz).mono ?_
  rintro e w2 ⟨hb, ns, rfl, h2, hg, k2⟩
  have H2 := Lib.hid h2
  have HG := Lib.hid hg
  have K2 := Lib.hid (K1.out.thenNo k2)
  have hlen : ns.length ≤ 200 := by have := hg.len; omega
  have hlen4 : ns.length ≤ 4000 := by omega
  generalize hR : 1 + pickP room 200 = R at *
  have hR1 : 1 ≤ R := by omega
  have hR2 : R ≤ 200 := by omega
  have hz12 := k2.size
  have hz01 := K1.out.size
  clear h2 hg k2 hp hR
  go_wp2_with fail
  refine (told_law11 H2.out.1 (Sc.bnd _ _) HG.out.sane hlen4).mono ?_
  rintro e w3 ⟨tv, rfl, h3, k3⟩
  obtain ⟨At, ct, rfl⟩ := h3.reads.slice
  have HV := Lib.hid h3.reads
  have H3 := Lib.hid (H2.out.1.keptNo k3)
  have K3 := Lib.hid (K2.out.thenNo k3)
  have hz3 := k3.size
  have hsh := Lib.hid (Short.of HG.out (show R ≤ 4000 by omega))
  clear h3 k3 K2
  go_wp2_with fail
  have hrf := refill_any H3.out HV.out (show R ≤ 4000 by omega) (by omega) hsh.out.2
  rw [refillP_good HG.out ns HG.out.len] at hrf
  refine hrf.mono ?_
  clear hrf
  rintro e w4 ⟨rfl, h4, k4⟩
  dsimp only at h4 ⊢
  have HV4 := Lib.hid (HV.out.kept k4 (fun b hb hf => by have := hb.1; have := hf.2; omega))
  have H4 := Lib.hid h4
  have K4 : Hid (Kept No w w4) := (K3.out.trans (k4.mono (fun b _ hf => hf.1) : Kept (Fr w1.heap.size) w3 w4) (fun b hb hf => by unfold Fr at hf; omega))
  have B4 := Lib.hid ((Bnd.le (Sc.bnd w1.heap.size w2) hz3).grow k4.size)
  clear h4 k4 HV H3 K3
  go_wp2_with fail
  refine (told_law11 H4.out B4.out HG.out.sane hlen4).mono ?_
  rintro e w5 ⟨tv2, rfl, h5, k5⟩
  obtain ⟨At2, ct2, rfl⟩ := h5.reads.slice
  have HN5 := Lib.hid h5.reads
  have HW5 := Lib.hid (HV4.out.keptNo k5)
  have K5 := Lib.hid (K4.out.thenNo k5)
  have H5 := Lib.hid (H4.out.keptNo k5)
  clear h5 k5 HV4 H4 K4 B4
  go_wp2_with fail
  refine (sameNodes_any HW5.out HN5.out hsh.out hsh.out).mono ?_
  rintro e w6 ⟨rfl, k6⟩
  rw [decide_eq_true rfl]
  have HW6 := Lib.hid ((HW5.out.keptNo k6).mono (F' := fun b => b < w6.heap.size) (fun b _ hlt => by first | exact hlt | trivial))
  have K6 := Lib.hid (K5.out.thenNo k6)
  have H6 := Lib.hid (H5.out.keptNo k6)
  clear k6 HN5 HW5 K5 H5
  have hpk := pickP_range less R (by omega)
  go_wp2_with fail
  refine (room_any H6.out).mono ?_
  rintro e W6 ⟨rfl, rfl⟩
  go_wp2_with fail
  refine (pick_any less R _ hless (by omega) (by omega)).mono ?_
  rintro e W6 ⟨rfl, rfl⟩
  generalize pickP less R = P at *
  go_wp2_with fail
  refine (new_yes (1 + P) _ (by omega) (by omega)).mono ?_
  rintro e w7 ⟨rfl, hw⟩
  have h7 : HeapN w6.heap.size w7 w6.heap.size (1 + P) [] := hw ▸ HeapN.of (heap_new w6 (1 + P)) (fun k hk _ => Nat.le_of_eq hk.symm)
  have k7 : Kept No w6 w7 := hw ▸ (Kept.refl _ w6).alloc _
  clear hw
  have H7 := Lib.hid h7
  have HW7 := Lib.hid (HW6.out.keptNo k7)
  have K7 := Lib.hid (K6.out.thenNo k7)
  have hz7 := k7.size
  have hz06 := K6.out.size
  clear h7 k7 HW6 K6 H6
  go_wp2_with fail
  have hm := makeN H7.out 3 _ [] (RowR.nil w7 1 No) (by omega) (p := ([⟨3, [], 0, false, 0⟩], 0, 0)) (by
    unfold makeP
    rw [if_neg (by simp), if_neg (by simp), if_neg (by simp; omega)]
    rfl)
  refine hm.mono ?_
  clear hm
  rintro e w8 ⟨rfl, h8, k8⟩
  dsimp only at h8 ⊢
  have H8 := Lib.hid h8
  have HW8 := Lib.hid (HW7.out.kept k8 (fun b hb hf => by unfold Fr at hf; omega))
  have K8 : Hid (Kept No w w8) := K7.out.trans k8 (fun b hb hf => by unfold Fr at hf; omega)
  clear h8 k8 H7 HW7 K7
  go_wp2_with fail
  have hrf := refillN H8.out HW8.out (show 1 + P ≤ 4000 by omega) (by omega) hsh.out.2
  by_cases hbig : 1 + P < ns.length
  · rw [refillP_full _ hbig] at hrf
    refine hrf.mono ?_
    clear hrf
    rintro e w9 ⟨rfl, h9, k9⟩
    dsimp only at h9 ⊢
    have H9 := Lib.hid h9
    have K9 : Hid (Kept No w w9) := K8.out.trans k9 (fun b hb hf => by unfold Fr at hf; omega)
    clear h9 k9 H8 HW8 K8
    go_wp2_with fail
    have ht := told_law11 H9.out.1 (Sc.bnd _ _) (ns := [⟨3, [], 0, false, 0⟩]) ⟨by simp, by simp [Nd.down], by simp⟩ (by simp)
    refine ht.mono ?_
    clear ht
    rintro e wa ⟨tv3, rfl, ha, ka⟩
    obtain ⟨b, o, c3, av, rfl, _, hbl, m0, m1, m2, m3, m4, _⟩ := ha.reads.at_ (i := 0) (n := ⟨3, [], 0, false, 0⟩) rfl
    have Ka := Lib.hid (K9.out.thenNo ka)
    clear ha ka K9 H9
    rw [show o + 0 * 5 = o by omega] at m0
    go_wp2_with fail
    go_ret
    exact ⟨rfl, Ka.out⟩
  · rw [refillP_good HG.out _ (by omega)] at hrf
    refine hrf.mono ?_
    clear hrf
    rintro e w9 ⟨rfl, h9, k9⟩
    dsimp only at h9 ⊢
    have H9 := Lib.hid h9
    have HW9 := Lib.hid (HW8.out.kept k9 (fun b hb hf => by unfold Fr at hf; omega))
    have K9 : Hid (Kept No w w9) := K8.out.trans k9 (fun b hb hf => by unfold Fr at hf; omega)
    clear h9 k9 H8 HW8 K8
    go_wp2_with fail
    refine (told_law11 H9.out.1 (Sc.bnd _ _) HG.out.sane hlen4).mono ?_
    rintro e wa ⟨tv3, rfl, ha, ka⟩
    obtain ⟨At3, ct3, rfl⟩ := ha.reads.slice
    have HNa := Lib.hid ha.reads
    have HWa := Lib.hid (HW9.out.keptNo ka)
    have Ka := Lib.hid (K9.out.thenNo ka)
    clear ha ka K9 H9 HW9
    go_wp2_with fail
    refine (sameNodes_any HWa.out HNa.out hsh.out hsh.out).mono ?_
    rintro e wb ⟨rfl, kb⟩
    rw [decide_eq_true rfl]
    have Kb := Lib.hid (Ka.out.thenNo kb)
    clear kb
    go_wp2_with fail
    go_ret
    exact ⟨rfl, Kb.out⟩
end Go.Proofs.Ytooalgnppnmeaaa
