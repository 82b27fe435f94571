/- HeapKeeps: the walk. -/
import Derived.Test.YtooalgnppnmeaaaKeeps
import Derived.Test.YtooalgnppnmeaaaS2
import Derived.Deep.DeepCutAuto
import Derived.Deep.RegionLaw
namespace Go.Proofs.Ytooalgnppnmeaaa
open Go.RowKit

set_option maxRecDepth 100000 in
set_option maxHeartbeats 4000000 in
theorem heapKeeps_any (room : Int) (v : Value) (rs : List Rw) (x : Rw) (w : World) (hroom : I64 room) (hl : RawsR w (fun _ => True) v rs) (hI : ∀ x ∈ rs, x.ok) (hsz : rs.length ≤ 9223372036854775807) (hx : x.ok) :
    Calls Try.prog 5 #[.int .i64 room, v, rwVal x] w (RetYes w) := by
  obtain ⟨A, c, rfl⟩ := RowR.slice hl
  have HL := Lib.hid hl
  have HI := Lib.hid hI
  have HX := Lib.hid hx
  clear hl hI hx
  have hp := pickP_range room 200 (by decide)
  unfold rwVal
  go_enter Try.func5, Try.ntmps5
  go_wp2_with fail
  refine (awake11_any _).mono ?_
  rintro e w1 ⟨rfl, k1⟩
  have g1 : w1.heap[w.heap.size]? = _ := k1.blk (heap_alloc_new w _) (fun h => h)
  have G1 := Lib.hid g1
  have K1 := Lib.hid (((Kept.refl No w).alloc _).thenNo k1)
  clear k1 g1
  go_wp2_with fail
  refine (grown_any room _ rs _ hroom (RowR.keptNo HL.out K1.out) HI.out hsz).mono ?_
  rintro e w2 ⟨hb, ns, rfl, h2, hg, k2⟩
  have H2 := Lib.hid h2
  have HG := Lib.hid hg
  have K2 := Lib.hid (K1.out.thenNo k2)
  have G2 := Lib.hid (k2.blk G1.out (fun h => h))
  have hlen : ns.length ≤ 200 := by have := hg.len; omega
  have hlen4 : ns.length ≤ 4000 := by omega
  have hr4 : 1 + pickP room 200 ≤ 200 := by omega
  have hz12 := k2.size
  have hlt1 := (Array.getElem?_eq_some_iff.1 G1.out).1
  clear h2 hg k2 K1 G1 hp
  go_wp2_with fail
  refine (told_law11 H2.out.1 (Sc.bnd _ _) HG.out.sane hlen4).mono ?_
  rintro e w3 ⟨tv, rfl, h3, k3⟩
  obtain ⟨At, ct, rfl⟩ := h3.reads.slice
  have HV := Lib.hid h3.reads
  have H3 := Lib.hid (H2.out.1.keptNo k3)
  have K3 := Lib.hid (K2.out.thenNo k3)
  have g3 := k3.blk G2.out (fun h => h)
  have hz3 := k3.size
  have q0 : w3.cell? ⟨w.heap.size, 0, none⟩ = some (.int .i64 x.kind) := by rw [cell_of_row _ _ _ _ _ _ g3]; rfl
  have q1 : w3.cell? ⟨w.heap.size, 1, none⟩ = some (.int .i64 x.n) := by rw [cell_of_row _ _ _ _ _ _ g3]; rfl
  have q2 : w3.cell? ⟨w.heap.size, 2, none⟩ = some (.int .i64 x.m) := by rw [cell_of_row _ _ _ _ _ _ g3]; rfl
  have q3 : w3.cell? ⟨w.heap.size, 3, none⟩ = some (.int .i64 x.k) := by rw [cell_of_row _ _ _ _ _ _ g3]; rfl
  have G3 := Lib.hid g3
  clear h3 k3 K2 G2 g3
  go_wp2_with fail
  have hst := step_any H3.out (Bnd.le (Sc.bnd _ w2) hz3) HG.out.sane (show 1 + pickP room 200 ≤ 4000 by omega) hlen4 x HX.out
  refine hst.mono ?_
  clear hst q0 q1 q2 q3
  rintro e w4 ⟨p, hp, rfl, h4, k4⟩
  have G4 := Lib.hid (HG.out.step hp)
  have OK := Lib.hid (keeps_ok hp)
  obtain ⟨ms, err⟩ := p
  dsimp only at h4 ⊢
  have hlen2 : ms.length ≤ 200 := by have := G4.out.len; dsimp only at this; omega
  have hlen24 : ms.length ≤ 4000 := by omega
  have HV4 := Lib.hid (HV.out.kept k4 (fun b hb hf => by have := hb.1; have := hf.2; omega))
  have H4 := Lib.hid h4
  have K4 : Hid (Kept No w w4) := (K3.out.trans (k4.mono (fun b _ hf => hf.1) : Kept (Fr w1.heap.size) w3 w4) (fun b hb hf => by unfold Fr at hf; have := hlt1; omega))
  have B4 := Lib.hid ((Bnd.le (Sc.bnd w1.heap.size w2) hz3).grow k4.size)
  have gg4 := k4.blk G3.out (fun hf => by have := hf.1; omega)
  have GG4 := Lib.hid gg4
  clear h4 k4 hp gg4 HV H3 K3 G3
  go_wp2_with fail
  refine (told_law11 H4.out B4.out G4.out.sane hlen24).mono ?_
  rintro e w5 ⟨tv2, rfl, h5, k5⟩
  obtain ⟨At2, ct2, rfl⟩ := h5.reads.slice
  have HN5 := Lib.hid (h5.reads.mono (fun _ _ _ => trivial) : NodesR w5 (fun _ => True) _ ms)
  have HW5 := Lib.hid ((HV4.out.keptNo k5).mono (fun _ _ _ => trivial) : NodesR w5 (fun _ => True) _ ns)
  have K5 := Lib.hid (K4.out.thenNo k5)
  have g5 := k5.blk GG4.out (fun h => h)
  have G5 := Lib.hid g5
  have hz5 := (Array.getElem?_eq_some_iff.1 g5).1
  clear h5 k5 g5 HV4 H4 K4 GG4 B4
  have hl1 := OK.out.l1
  have hl2 := OK.out.l2
  have hpk := pickP_range x.kind 7 (by decide)
  have fin : Hid (∀ W, Kept No w5 W → RetYes w (.returned (.bool true)) W) := fun W hk => ⟨rfl, K5.out.thenNo hk⟩
  go_upto_region 8 with fail
  go_cut [73] (fun s wx => s = .bool false ∧ wx = w5)
  case first =>
    by_cases he : err = 0
    · have e1 : (err != 0) = false := by simp [he]
      clear he
      go_wp2_with fail
      go_meet
      have a1 : decide (ms.length < ns.length) = false := by simp; omega
      have a2 : decide ((ns.length : Int) + 1 < ms.length) = false := by simp; omega
      exact ⟨by rw [a1, a2]; rfl, rfl⟩
    · have e1 : (err != 0) = true := by simpa using he
      have e2 : ((ms.length : Int) != (ns.length : Int)) = false := by have := OK.out.l3 he; simp; omega
      clear he
      go_wp2_with fail
      go_meet
      have a1 : decide (ms.length < ns.length) = false := by simp; omega
      have a2 : decide ((ns.length : Int) + 1 < ms.length) = false := by simp; omega
      exact ⟨by rw [a1, a2]; rfl, rfl⟩
  case rest =>
    obtain ⟨rfl, rfl⟩ := hcut
    go_wp2_with fail
    obtain ⟨W5, hW5⟩ : ∃ W5 : World, W5 = wc := ⟨_, rfl⟩
    rw [← hW5]
    rw [← hW5] at HN5 HW5 K5 G5 fin hz5
    clear hW5
    go_loopw [14, 15] (fun t14 t15 wr => ∃ k : Nat, k ≤ ns.length ∧ t15 = .int .i64 k ∧ t14 = .int .i64 (turned ns ms k) ∧ Hid (Kept No W5 wr)) (fun _ t15 _ => ns.length - (intOf t15).toNat)
    case atStart => exact ⟨0, by omega, rfl, rfl, Kept.refl _ _⟩
    case round =>
      obtain ⟨k, hk, rfl, rfl, HK⟩ := hrel
      have htl := turned_le ns ms k
      by_cases hlt : k < ns.length
      · have hx : ns[k]? = some ns[k] := List.getElem?_eq_getElem hlt
        have hy : ms[k]? = some (ms[k]'(by omega)) := List.getElem?_eq_getElem (by omega)
        obtain ⟨b, o, c', a1, he, _, _, p0, p1, p2, p3, p4, hr1⟩ := (HW5.out.keptNo HK.out).at_ hx
        injection he with he _ hc
        subst he hc
        obtain ⟨b2, o2, c2', a2, he, _, _, q0, q1, q2, q3, q4, hr2⟩ := (HN5.out.keptNo HK.out).at_ hy
        injection he with he _ hc
        subst he hc
        have s1 := HG.out.sane.few _ (List.mem_of_getElem? hx)
        have s2 := G4.out.sane.few _ (List.mem_of_getElem? hy)
        have HT := Lib.hid (turned_succ ns ms k _ _ hx hy)
        have R1 := Lib.hid hr1
        have R2 := Lib.hid hr2
        clear hx hy hr1 hr2
        generalize ns[k] = a at *
        generalize ms[k]'(by omega) = d at *
        have i1 : (0 : Int) ≤ (k : Int) := by omega
        have i2 : (k : Int) < (ns.length : Int) := by omega
        have i3 : (k : Int) < (ms.length : Int) := by omega
        obtain ⟨A1, d1, rfl⟩ := R1.out.slice
        obtain ⟨A2, d2, rfl⟩ := R2.out.slice
        have hcall := Lib.hid (fun W => fun h => @sameNode_any (fun _ => True) (fun _ => True) (.slice A1 a.args.length d1) (.slice A2 d.args.length d2) a d W (R1.out.keptNo h) (R2.out.keptNo h) (by omega) (by omega))
        clear s1 s2
        by_cases hxy : a = d
        · have hde : decide (a = d) = true := by simpa using hxy
          rw [hde] at hcall
          have HT2 : Hid (turned ns ms (k + 1) = turned ns ms k) := by show _ = _; rw [HT.out, if_pos hxy]; rfl
          clear hxy hde
          go_wp2_with fail
          go_region_law (first | (go_simp; go_at_call 31; refine (hcall.out _ ((Kept.refl No wr).drew)).mono ?_; rintro e w1 ⟨rfl, k1⟩))
          all_goals
            have KK := Lib.hid ((HK.out.drew).thenNo k1)
            clear k1
            go_wp2_with fail
            go_roundw
            case rel => exact ⟨k + 1, by omega, by go_num, by rw [HT2.out], KK⟩
            case measure => (simp [intOf]; try omega)
        · have hde : decide (a = d) = false := by simpa using hxy
          rw [hde] at hcall
          have HT2 : Hid ((turned ns ms (k + 1) : Int) = (turned ns ms k : Int) + 1) := by show _ = _; rw [HT.out, if_neg hxy]; rfl
          clear hxy hde
          go_wp2_with fail
          go_region_law (first | (go_simp; go_at_call 31; refine (hcall.out _ ((Kept.refl No wr).drew)).mono ?_; rintro e w1 ⟨rfl, k1⟩))
          all_goals
            have KK := Lib.hid ((HK.out.drew).thenNo k1)
            clear k1
            go_wp2_with fail
            go_roundw
            case rel => exact ⟨k + 1, by omega, by go_num, by rw [HT2.out], KK⟩
            case measure => (simp [intOf]; try omega)
      · have hke : k = ns.length := by omega
        have hta : turned ns ms k = allTurned ns ms := by rw [hke]; exact turned_all ns ms hl1
        rw [hta]
        rw [hta] at htl
        have htc := OK.out.c
        have g6 := HK.out.blk G5.out (fun h => h)
        have q0 : wr.cell? ⟨w.heap.size, 0, none⟩ = some (.int .i64 x.kind) := by rw [cell_of_row _ _ _ _ _ _ g6]; rfl
        have q1 : wr.cell? ⟨w.heap.size, 1, none⟩ = some (.int .i64 x.n) := by rw [cell_of_row _ _ _ _ _ _ g6]; rfl
        have q2 : wr.cell? ⟨w.heap.size, 2, none⟩ = some (.int .i64 x.m) := by rw [cell_of_row _ _ _ _ _ _ g6]; rfl
        have X1 := HX.out.1
        have X2 := HX.out.2.1
        have X3 := HX.out.2.2.1
        clear hta hke g6 htl
        by_cases he : err ≠ 0 ∨ pickP x.kind 7 < 4
        · have h00 := OK.out.c0 he
          have htz : ((allTurned ns ms : Int) == 0) = true := by rw [h00]; rfl
          by_cases he0 : err = 0
          · have h7 : pickP x.kind 7 < 4 := by rcases he with h | h; exact absurd he0 h; exact h
            have e1 : (err != 0) = false := by simp [he0]
            have e2 : ((ms.length : Int) == (ns.length : Int)) = false := by have := OK.out.l4 h7 he0; simp; omega
            clear he he0 h00 htc
            go_wp2_with fail
            refine (pick_any x.kind 7 _ X1 (by decide) (by decide)).mono ?_
            rintro e w6 ⟨rfl, rfl⟩
            go_wp2_with fail
            go_ret
            exact fin.out _ HK.out
          · have e1 : (err != 0) = true := by simpa using he0
            have e2 : ((ms.length : Int) == (ns.length : Int)) = true := by have := OK.out.l3 he0; simp; omega
            clear he he0 h00 htc
            go_wp2_with fail
            refine (pick_any x.kind 7 _ X1 (by decide) (by decide)).mono ?_
            rintro e w6 ⟨rfl, rfl⟩
            go_wp2_with fail
            go_ret
            exact fin.out _ HK.out
        · have he0 : err = 0 := by omega
          have h7 : 4 ≤ pickP x.kind 7 := by omega
          have hne := OK.out.ne he0 h7
          have e1 : (err != 0) = false := by simp [he0]
          have hpn := pickP_range x.n ns.length (by omega)
          have b1 : decide ((allTurned ns ms : Int) ≤ 1) = true := by simp; omega
          have b2 : (allTurned ns ms : Int) ≤ 1 := by omega
          by_cases h6 : pickP x.kind 7 = 6
          · obtain ⟨y, hy1, hy2, hy3⟩ := OK.out.m6 he0 h6
            obtain ⟨_, hy4⟩ := ndAt_inR hy1
            obtain ⟨bb, oo, c2', a2, he', _, _, p0, p1, p2, p3, p4, _⟩ := (HN5.out.keptNo HK.out).at_ hy4
            injection he' with he' _ hc
            subst he' hc
            rw [hy2] at p2
            rw [hy3] at p3
            have e6 : (pickP x.kind 7 == 6) = true := by simpa using h6
            have hq : Hid (∀ W : World, Calls Try.prog 20 #[.int .i64 x.m, .int .i64 3] W fun e w' => e = .returned (.int .i64 (pickP x.m 3)) ∧ w' = W) := fun W => (pick_any x.m 3 W X3 (by decide) (by decide)).mono fun _ _ h => ⟨h.1, h.2.symm⟩
            clear he he0 h6 hy1 hy2 hy3 hy4 htc
            go_wp2_with fail
            refine (pick_any x.kind 7 _ X1 (by decide) (by decide)).mono ?_
            rintro e w6 ⟨rfl, rfl⟩
            go_wp2_with fail
            refine (pick_any x.n ns.length _ X2 (by omega) (by omega)).mono ?_
            rintro e w6 ⟨rfl, rfl⟩
            generalize pickP x.n ns.length = i at *
            obtain ⟨i0, i1⟩ := hpn
            have i2 : i < (ms.length : Int) := by omega
            go_wp2_with fail
            go_quiet ((go_at_call 20; exact Calls.quiet_of_same (hq.out _)))
            go_wp2_with fail
            go_ret
            exact fin.out _ (HK.out.drewN _)
          · obtain ⟨y, hy1, hy2, hy3⟩ := OK.out.m4 he0 h7 (by omega)
            obtain ⟨_, hy4⟩ := ndAt_inR hy1
            obtain ⟨bb, oo, c2', a2, he', _, _, p0, p1, p2, p3, p4, _⟩ := (HN5.out.keptNo HK.out).at_ hy4
            injection he' with he' _ hc
            subst he' hc
            rw [hy2] at p3
            rw [hy3] at p4
            have e6 : (pickP x.kind 7 == 6) = false := by simpa using h6
            have hq : Hid (∀ W : World, Calls Try.prog 20 #[.int .i64 x.m, .int .i64 ns.length] W fun e w' => e = .returned (.int .i64 (pickP x.m ns.length)) ∧ w' = W) := fun W => (pick_any x.m ns.length W X3 (by omega) (by omega)).mono fun _ _ h => ⟨h.1, h.2.symm⟩
            clear he he0 h6 hy1 hy2 hy3 hy4 htc
            go_wp2_with fail
            refine (pick_any x.kind 7 _ X1 (by decide) (by decide)).mono ?_
            rintro e w6 ⟨rfl, rfl⟩
            go_wp2_with fail
            refine (pick_any x.n ns.length _ X2 (by omega) (by omega)).mono ?_
            rintro e w6 ⟨rfl, rfl⟩
            generalize pickP x.n ns.length = i at *
            obtain ⟨i0, i1⟩ := hpn
            have i2 : i < (ms.length : Int) := by omega
            go_wp2_with fail
            go_quiet ((go_at_call 20; exact Calls.quiet_of_same (hq.out _)))
            go_wp2_with fail
            go_ret
            exact fin.out _ (HK.out.drewN _)
end Go.Proofs.Ytooalgnppnmeaaa
