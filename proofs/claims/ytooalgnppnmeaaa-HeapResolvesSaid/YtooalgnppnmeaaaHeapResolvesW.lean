/- HeapResolves: the walk. -/
import Derived.Test.YtooalgnppnmeaaaL11c
namespace Go.Proofs.Ytooalgnppnmeaaa
open Go.RowKit

set_option maxRecDepth 100000 in
set_option maxHeartbeats 2000000 in
theorem heapResolves_any (room : Int) (v : Value) (rs : List Rw) (w : World) (hroom : I64 room) (hl : RawsR w (fun _ => True) v rs) (hI : ∀ x ∈ rs, x.ok) (hsz : rs.length ≤ 9223372036854775807) :
    Calls Try.prog 6 #[.int .i64 room, v] w (RetYes w) := by
  obtain ⟨A, c, rfl⟩ := RowR.slice hl
  have HL := Lib.hid hl
  have HI := Lib.hid hI
  clear hl hI
  have hp := pickP_range room 200 (by decide)
  go_enter Try.func6, Try.ntmps6
  go_wp2_with fail
  refine (awake11_any _).mono ?_
  rintro e w1 ⟨rfl, k1⟩
  have K1 := Lib.hid k1
  clear k1
  go_wp2_with fail
  refine (grown_any room _ rs _ hroom (RowR.keptNo HL.out K1.out) HI.out hsz).mono ?_
  rintro e w2 ⟨hb, ns, rfl, h2, hg, k2⟩
  have H2 := Lib.hid h2
  have HG := Lib.hid hg
  have K2 := Lib.hid (K1.out.thenNo k2)
  have hlen : ns.length ≤ 200 := by have := hg.len; omega
  clear h2 hg k2 K1 hp
  go_wp2_with fail
  go_loopw [7] (fun i wr => ∃ k : Nat, k ≤ ns.length ∧ i = .int .i64 k ∧ Hid (Kept No w2 wr)) (fun i _ => ns.length - (intOf i).toNat)
  case atStart => exact ⟨0, by omega, rfl, Kept.refl _ _⟩
  case round =>
    obtain ⟨k, hk, rfl, HK⟩ := hrel
    by_cases hlt : k < ns.length
    · obtain ⟨n, hn1, hn2⟩ := ndAt_of (inR_iff.2 ⟨by omega, by omega⟩ : inR ns k = true)
      have h6 := HG.out.sane.few n (ndAt_mem hn1)
      have hmay := HG.out.may n (ndAt_mem hn1)
      obtain ⟨b, hb1⟩ := Is.exists_ HG.out.sane HG.out.acyc k (ndAt_inR hn1).1
      obtain ⟨m, hm1, hm2⟩ := hb1.end_
      have h6m := HG.out.sane.few m (ndAt_mem hm1)
      have HN := Lib.hid hn1
      have HB := Lib.hid hb1
      have HM := Lib.hid hm1
      have HMP := Lib.hid hm2
      have HMAY := Lib.hid hmay
      clear hn1 hn2 hmay hb1 hm1 hm2
      go_wp2_with fail
      refine (used_any (H2.out.1.keptNo HK.out)).mono ?_
      rintro e w3 ⟨rfl, rfl⟩
      go_wp2_with fail
      refine (at_yes (H2.out.1.keptNo HK.out) k n HN.out (by omega)).mono ?_
      rintro e w4 ⟨a, rfl, ho, k4⟩
      dsimp only [ndVal]
      obtain ⟨A4, c4, rfl⟩ := (own_reads ho (F := fun _ => True) (fun _ _ => trivial)).slice
      have K4 := Lib.hid (HK.out.thenNo k4)
      clear k4 ho
      go_wp2_with fail
      refine (resolve_yes (H2.out.1.keptNo (K4.out.alloc _)) HG.out.acyc k b HB.out).mono ?_
      rintro e w5 ⟨rfl, hw⟩
      have g5 : w5.heap[w4.heap.size]? = _ := hw ▸ heap_alloc_new w4 _
      have K5 := Lib.hid (hw ▸ K4.out.alloc _ : Kept No w2 w5)
      clear hw
      have G5 := Lib.hid g5
      clear g5
      go_wp2_with fail
      refine (at_yes (H2.out.1.keptNo K5.out) b m HM.out (by omega)).mono ?_
      rintro e w6 ⟨a, rfl, ho, k6⟩
      dsimp only [ndVal]
      rw [HMP.out]
      obtain ⟨A6, c6, rfl⟩ := (own_reads ho (F := fun _ => True) (fun _ _ => trivial)).slice
      have K6 := Lib.hid (K5.out.thenNo k6)
      have g6 := k6.blk G5.out (fun h => h)
      obtain ⟨w7, hw7⟩ : ∃ w7, w7 = w6.alloc (.cells #[.int .i64 m.sym, .slice A6 m.args.length c6, .int .i64 m.mark, .bool false, .int .i64 m.to] 32) := ⟨_, rfl⟩
      have K7 : Hid (Kept No w2 w7) := hw7 ▸ K6.out.alloc _
      have g7 : w7.heap[w4.heap.size]? = _ := hw7 ▸ blk_alloc g6 _
      have g7m : w7.heap[w6.heap.size]? = _ := hw7 ▸ heap_alloc_new w6 _
      obtain ⟨⟨p0, p1, p2, p3, p4⟩, _⟩ := cells5 g7
      obtain ⟨⟨q0, q1, q2, q3, q4⟩, _⟩ := cells5 g7m
      rw [hw7] at p0 p1 p2 p3 p4 q0 q1 q2 q3 q4
      have HW7 := Lib.hid hw7
      clear g6 g7 g7m k6 ho hw7
      cases hp : n.pts with
      | false =>
        rw [hp] at p3
        have hbk : b = k := by
          cases HB.out with
          | app _ _ => rfl
          | ptr h1 h2 _ => rw [HN.out] at h1; injection h1 with h1; subst h1; rw [hp] at h2; cases h2
        have HBK : Hid ((b != (k : Int)) = false) := by show _ = _; simp [hbk]
        have hne := HBK.out
        clear hbk hp
        go_wp2_with fail
        exact ⟨⟨k + 1, by omega, by go_num, K6.out.alloc _⟩, by (simp [intOf]; try omega)⟩
      | true =>
        rw [hp] at p3
        have hto : Is ns n.to b := by
          cases HB.out with
          | app h1 h2 => rw [HN.out] at h1; injection h1 with h1; subst h1; rw [hp] at h2; cases h2
          | ptr h1 h2 h3 => rw [HN.out] at h1; injection h1 with h1; subst h1; exact h3
        obtain ⟨_, _, _, _, _, hm6, _⟩ := HMAY.out
        obtain ⟨_, _, ms, mm, ma⟩ := hm6 hp
        have hal : n.args.length = 0 := by rw [ma]; rfl
        rw [ms] at p0
        rw [mm] at p2
        rw [hal] at p1
        have HTO := Lib.hid hto
        clear hto ms mm ma hal hp hm6
        go_wp2_with fail
        refine (resolve_yes (H2.out.1.keptNo (K6.out.alloc _)) HG.out.acyc n.to b HTO.out).mono ?_
        rintro e w8 ⟨rfl, hw8⟩
        rw [hw8] at p0 p1 p2 p3 p4
        have K8 := Lib.hid (hw8 ▸ K6.out.alloc _ : Kept No w2 w8)
        clear hw8 q0 q1 q2 q3 q4
        go_wp2_with fail
        exact ⟨⟨k + 1, by omega, by go_num, K8.out⟩, by (simp [intOf]; try omega)⟩
    · go_wp2_with fail
      refine (used_any (H2.out.1.keptNo HK.out)).mono ?_
      rintro e w3 ⟨rfl, rfl⟩
      go_wp2_with fail
      refine (used_any (H2.out.1.keptNo HK.out)).mono ?_
      rintro e w3 ⟨rfl, rfl⟩
      go_wp2_with fail
      refine (resolve_no (H2.out.1.keptNo HK.out) _ (inR_false.2 (by omega))).mono ?_
      rintro e w3 ⟨rfl, rfl⟩
      go_wp2_with fail
      refine (at_no (H2.out.1.keptNo HK.out) _ (inR_false.2 (by omega))).mono ?_
      rintro e w4 ⟨a, rfl, ho, k4⟩
      dsimp only [ndVal, Nd.zero] at ho ⊢
      obtain ⟨A4, c4, rfl⟩ := (own_reads ho (F := fun _ => True) (fun _ _ => trivial)).slice
      have K4 := Lib.hid ((K2.out.thenNo HK.out).thenNo k4)
      clear k4 ho
      go_wp2_with fail
      go_ret
      exact ⟨rfl, K4.out.alloc _⟩
end Go.Proofs.Ytooalgnppnmeaaa
