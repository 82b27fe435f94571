/- SlideUnseen: the walk. -/
import Derived.Test.YtooalgnppnmeaaaUnseenN
import Derived.Deep.RegionLaw
import Derived.Deep.DeepCutAuto
namespace Go.Proofs.Ytooalgnppnmeaaa
open Go.RowKit

/-- Between two acts. -/
def UI (w : World) (hb gb : Nat) (k : Nat) (tx ty : Value) (wr : World) : Prop :=
  ∃ F G xs ys ns ms Ax cx Ay cy, tx = .slice Ax xs.length cx ∧ ty = .slice Ay xs.length cy ∧ UL k xs ys ns ms ∧ UM w.heap.size F G hb gb tx ty xs ys ns ms wr ∧ Kept No w wr

set_option maxRecDepth 100000 in
set_option maxHeartbeats 40000000 in
theorem slideUnseen_any (v0 : Value) (rs : List Ac) (w : World) (hl : ActsR w (fun _ => True) v0 rs) (hI : ∀ x ∈ rs, x.ok) (_ : rs.length ≤ 9223372036854775807) :
    Calls Try.prog 18 #[v0] w (RetYes w) := by
  obtain ⟨A0, c0, rfl⟩ := RowR.slice hl
  have HL := Lib.hid (RowR.mono (F' := fun k => k < w.heap.size) hl (fun _ _ h => h) : ActsR w _ _ rs)
  have HII := Lib.hid hI
  clear hl hI
  go_enter Try.func18, Try.ntmps18
  go_wp2_with fail
  refine (awake12_any _).mono ?_
  rintro e w1 ⟨rfl, k1⟩
  have K1 := Lib.hid k1
  have hz1 := k1.size
  clear k1
  go_wp2_with fail
  refine (new_yes 2000 _ (by decide) (by decide)).mono ?_
  rintro e w2 ⟨rfl, hw2⟩
  have h2 : HeapO w2 (fun k => k = w1.heap.size) w1.heap.size 2000 [] := hw2 ▸ heap_new w1 2000
  have k2 : Kept No w1 w2 := hw2 ▸ (Kept.refl No w1).alloc _
  have z2 : w2.heap.size = w1.heap.size + 1 := by rw [← hw2]; simp
  clear hw2
  go_wp2_with fail
  refine (new_yes 2000 _ (by decide) (by decide)).mono ?_
  rintro e w3 ⟨rfl, hw3⟩
  have h3 : HeapO w3 (fun k => k = w2.heap.size) w2.heap.size 2000 [] := hw3 ▸ heap_new w2 2000
  have k3 : Kept No w2 w3 := hw3 ▸ (Kept.refl No w2).alloc _
  have z3 : w3.heap.size = w2.heap.size + 1 := by rw [← hw3]; simp
  clear hw3
  obtain ⟨hb, hhb⟩ : ∃ hb, w1.heap.size = hb := ⟨_, rfl⟩
  obtain ⟨gb, hgb⟩ : ∃ gb, w2.heap.size = gb := ⟨_, rfl⟩
  have U0 : Hid (UI w hb gb 0 (.slice none 0 0) (.slice none 0 0) w3) := by
    refine ⟨fun k => k = hb, fun k => k = gb, [], [], [], [], none, 0, none, 0, rfl, rfl, UL.nil 0, ⟨?_, ?_, fun k hk => ?_, fun k hk => ?_, fun k h1 h2 => ?_, fun k hk => ?_, fun k hk => ?_, World.ownsRow_nil _ _ _ _, World.ownsRow_nil _ _ _ _, fun k hk => ?_, fun k hk => ?_, fun k hk => ?_⟩, (K1.out.trans k2 (fun _ _ h => h)).trans k3 (fun _ _ h => h)⟩
    · rw [← hhb]; exact h2.keptNo k3
    · rw [← hgb]; exact h3
    all_goals first | omega | (simp [Value.ownBlock] at hk)
  rw [hhb, hgb]
  clear h2 h3 k2 k3
  go_wp2_with fail
  go_loopw [8, 9, 10] (fun t8 t9 t10 wr => ∃ k : Nat, k ≤ rs.length ∧ k ≤ 600 ∧ t10 = .int .i64 k ∧ Hid (UI w hb gb k t8 t9 wr)) (fun _ _ t10 _ => rs.length - (intOf t10).toNat)
  case atStart => exact ⟨0, Nat.zero_le _, by omega, rfl, U0⟩
  case round =>
    obtain ⟨k, hk, hk6, rfl, HU⟩ := hrel
    obtain ⟨F, G, xs, ys, ns, ms, Ax, cx, Ay, cy, rfl, rfl, hUL, hUM, hKw⟩ := HU.out
    clear HU U0
    have HUL := Lib.hid hUL
    have HUM := Lib.hid hUM
    have HKw := Lib.hid hKw
    have hlxy := Lib.hid hUL.lxy.symm
    have hlx := hUL.lx
    clear hUL hUM hKw
    by_cases hgo : k < rs.length ∧ k < 600
    · obtain ⟨hlt, hlt6⟩ := hgo
      have hx : rs[k]? = some rs[k] := List.getElem?_eq_getElem hlt
      have hxo := HII.out _ (List.mem_of_getElem? hx)
      obtain ⟨ab, ao, ac, hv, _, _, e0, e1, e2, e3⟩ := ActsR.at_ (RowR.keptNo HL.out HKw.out) hx
      injection hv with hv _ hc
      subst hv hc
      generalize rs[k] = a at *
      obtain ⟨a1, a2, a3, a4⟩ := hxo
      have hkd := pickP_range a.kind 7 (by decide)
      clear hx
      have i1 : (k : Int) < (rs.length : Int) := by omega
      have i2 : (k : Int) < 600 := by omega
      go_wp2_with fail
      obtain ⟨X, hX⟩ : ∃ X, wr.heap.size = X := ⟨_, rfl⟩
      obtain ⟨w5, hw5⟩ : ∃ w5, wr.alloc (.cells #[.int .i64 a.kind, .int .i64 a.a, .int .i64 a.b, .int .i64 a.c] 87) = w5 := ⟨_, rfl⟩
      have k5 : Kept No wr w5 := hw5 ▸ (Kept.refl No wr).alloc _
      have g5 : w5.heap[X]? = some (.cells #[.int .i64 a.kind, .int .i64 a.a, .int .i64 a.b, .int .i64 a.c] 87 (0, 0)) := by rw [← hw5, ← hX]; exact heap_alloc_new wr _
      have z5 : w5.heap.size = X + 1 := by rw [← hw5]; simp [hX]
      have hwX : w.heap.size ≤ X := hX ▸ HKw.out.size
      have M5 := Lib.hid (HUM.out.keptNo k5)
      have hoff : Hid (∀ b, F b ∨ G b → b < X) := fun b hb => by
        rcases hb with hb | hb
        · have := HUM.out.bF b hb; omega
        · have := HUM.out.bG b hb; omega
      have K5 := Lib.hid (HKw.out.thenNo k5)
      have G5 := Lib.hid g5
      have f0 : w5.cell? ⟨X, 0, none⟩ = some (.int .i64 a.kind) := by rw [cell_of_row _ _ _ _ _ _ g5]; rfl
      have f1 : w5.cell? ⟨X, 1, none⟩ = some (.int .i64 a.a) := by rw [cell_of_row _ _ _ _ _ _ g5]; rfl
      have f2 : w5.cell? ⟨X, 2, none⟩ = some (.int .i64 a.b) := by rw [cell_of_row _ _ _ _ _ _ g5]; rfl
      have f3 : w5.cell? ⟨X, 3, none⟩ = some (.int .i64 a.c) := by rw [cell_of_row _ _ _ _ _ _ g5]; rfl
      have G5c : Hid (w5.cell? ⟨X, 1, none⟩ = some (.int .i64 a.a) ∧ w5.cell? ⟨X, 2, none⟩ = some (.int .i64 a.b)) := ⟨f1, f2⟩
      rw [hw5, hX]
      clear k5 g5 hw5 HUM HKw e0 e1 e2 e3
      refine (pick12_any a.kind 7 _ a1 (by decide) (by decide)).mono ?_
      rintro e w6 ⟨rfl, rfl⟩
      have hpc := pickP_range a.c 4 (by decide)
      have hpb := pickP_range a.b 9 (by decide)
      by_cases hb1 : pickP a.kind 7 ≤ 3 ∨ xs.length = 0
      · -- one more
        as_aux_lemma =>
          have hb2 : (pickP a.kind 7 ≤ 3) ∨ ¬ (pickP a.kind 7 ≤ 3) ∧ Hid (xs.length = 0) := by
            by_cases h : pickP a.kind 7 ≤ 3
            · exact .inl h
            · exact .inr ⟨h, hb1.resolve_left h⟩
          have hb3 : pickP a.kind 7 ≤ 3 ∨ ((xs.length : Int) == 0) = true := by
            rcases hb2 with h | h
            · exact .inl h
            · have h := h.2.out
              exact .inr (by simp [h])
          rcases hb2 with h3 | ⟨h3, h0⟩
          all_goals
            have hb4 := Lib.hid hb3
            clear hb3
            first
              | (have h0 := hb4.out.resolve_left h3; have hb1 := Lib.hid hb1; clear hb1)
              | clear hb1
          all_goals
            go_wp2_with fail
            try (have H0 := Lib.hid h0; clear h0)
            go_loopw [14, 15, 16] (fun t14 t15 t16 wx => ∃ j : Nat, j ≤ 3 ∧ t16 = .int .i64 j ∧ ∃ Ap cp Aq cq ps qs, t14 = .slice Ap j cp ∧ t15 = .slice Aq j cq ∧ Hid (PQ w5 xs ys j t14 t15 ps qs wx)) (fun _ _ t16 _ => 3 - (intOf t16).toNat)
            case atStart => exact ⟨0, by omega, rfl, _, _, _, _, _, _, rfl, rfl, PQ.nil w5 xs ys⟩
            case round =>
              obtain ⟨j, hj, rfl, Ap, cp, Aq, cq, ps, qs, rfl, rfl, HP⟩ := hrel
              have hk5 := HP.out.kept
              have f1 := (hk5.cell (p := ⟨X, 1, none⟩) (by dsimp only; omega) (fun h => h)).trans f1
              have f2 := (hk5.cell (p := ⟨X, 2, none⟩) (by dsimp only; omega) (fun h => h)).trans f2
              have f3 := (hk5.cell (p := ⟨X, 3, none⟩) (by dsimp only; omega) (fun h => h)).trans f3
              by_cases hgo2 : (j : Int) < pickP a.c 4 ∧ 0 < xs.length
              · obtain ⟨hj1, hj2⟩ := hgo2
                try (exfalso; have h0 := H0.out; simp at h0; omega)
                all_goals
                  have j2 : (0 : Int) < (xs.length : Int) := by omega
                  go_wp2_with fail
                  refine (pick12_any a.c 4 _ a4 (by decide) (by decide)).mono ?_
                  rintro e w7 ⟨rfl, rfl⟩
                  go_wp2_with fail
                  have hpr := pickP_range (wrap64 (a.a + wrap64 (↑j * a.b))) xs.length j2
                  have hzn := Int.eq_ofNat_of_zero_le hpr.1
                  have hpk := fun W => pick12_any (wrap64 (a.a + wrap64 (↑j * a.b))) xs.length W (i64_wrapped _) j2 (by omega)
                  generalize pickP (wrap64 (a.a + wrap64 (↑j * a.b))) xs.length = z at *
                  obtain ⟨zn, rfl⟩ := hzn
                  have hzl : zn < xs.length := by omega
                  have hxz : xs[zn]? = some xs[zn] := List.getElem?_eq_getElem hzl
                  have hyz : ys[zn]? = some (ys[zn]'(by rw [hlxy.out]; exact hzl)) := List.getElem?_eq_getElem _
                  obtain ⟨gx, cx', he, hcx⟩ := row_at (own_kept M5.out.x hk5 (fun _ _ h => h)) rfl hxz
                  injection he with he _ hc
                  subst he hc
                  obtain ⟨g1, c1, w7, g2, c2, w8, happ1, happ2, hP8, k7⟩ := HP.out.push (by omega) hxz hyz
                  obtain ⟨gy, cy', he, hcy⟩ := row_at (own_kept M5.out.y k7 (fun _ _ h => h)) rfl hyz
                  injection he with he hll hc
                  subst he hc
                  clear hll
                  have f1' := (k7.cell (p := ⟨X, 1, none⟩) (by dsimp only; omega) (fun h => h)).trans (G5c.out.1)
                  have f2' := (k7.cell (p := ⟨X, 2, none⟩) (by dsimp only; omega) (fun h => h)).trans (G5c.out.2)
                  generalize xs[zn] = x0 at *
                  generalize ys[zn]'(by rw [hlxy.out]; exact hzl) = y0 at *
                  have HP8 := Lib.hid hP8
                  have HPK := Lib.hid hpk
                  clear hP8 hxz hyz hpk k7 hk5
                  refine (HPK.out _).mono ?_
                  rintro e w9 ⟨rfl, rfl⟩
                  go_wp2_with (at_builtin; refine wpList_append_run rfl (.tmp 115) (.tmp 128) 22 rfl rfl rfl happ1 ?_; clear happ1)
                  refine (HPK.out _).mono ?_
                  rintro e w9 ⟨rfl, rfl⟩
                  go_wp2_with (at_builtin; refine wpList_append_run rfl (.tmp 130) (.tmp 143) 22 rfl rfl rfl happ2 ?_; clear happ2)
                  go_roundw
                  case rel => exact ⟨j + 1, by omega, by go_num, _, _, _, _, _, _, rfl, rfl, HP8⟩
                  case measure => (simp [intOf]; try omega)
              · have hgo3 : ¬ ((j : Int) < pickP a.c 4) ∨ ((j : Int) < pickP a.c 4) ∧ ¬ (0 < (xs.length : Int)) := by
                  by_cases h : (j : Int) < pickP a.c 4
                  · exact .inr ⟨h, fun e => hgo2 ⟨h, by omega⟩⟩
                  · exact .inl h
                have HMK := Lib.hid (HUL.out.make (by omega) (sym := pickP a.b 9) hpb.1 (ps := ps) (qs := qs) (by rw [HP.out.lp, HP.out.lq]) (by rw [HP.out.lp]; omega) HP.out.hh)
                have M6 := Lib.hid (M5.out.keptNo hk5)
                have hz6 := hk5.size
                have hw6 : w.heap.size ≤ wr.heap.size := by omega
                have HLP := Lib.hid HP.out.lp
                have HLQ := Lib.hid HP.out.lq
                have RP := Lib.hid (own_reads HP.out.p (F := fun k => w5.heap.size ≤ k) (fun k hk => (HP.out.p.lt k hk).1))
                have RQ := Lib.hid (own_reads HP.out.q (F := fun k => w5.heap.size ≤ k) (fun k hk => (HP.out.q.lt k hk).1))
                have K6 := Lib.hid (K5.out.thenNo hk5)
                obtain ⟨w6, hw6'⟩ : ∃ w6, w6 = wr := ⟨_, rfl⟩
                subst hw6'
                clear HP hk5 hgo2 M5 K5 G5 G5c
                rcases hgo3 with h7 | ⟨h7, h8⟩
                all_goals
                  go_wp2_with fail
                  refine (pick12_any a.c 4 _ a4 (by decide) (by decide)).mono ?_
                  rintro e w9 ⟨rfl, rfl⟩
                  go_wp2_with fail
                  refine (pick12_any a.b 9 _ a3 (by decide) (by decide)).mono ?_
                  rintro e w9 ⟨rfl, rfl⟩
                  go_wp2_with fail
                  refine (M6.out.makeH hw6 HLP.out.symm RP.out HMK.out.1).mono ?_
                  rintro e w7 ⟨rfl, hu7, hk7⟩
                  have f2 := (hk7.cell (p := ⟨X, 2, none⟩) (by dsimp only; omega) (fun h => by have : X < X := hoff.out X (.inl h); omega)).trans f2
                  have hz7 := hk7.size
                  have M7 := Lib.hid hu7
                  have RQ7 := Lib.hid (RQ.out.kept hk7 (fun k h1 h2 => by have : k < X := hoff.out k (.inl h2); omega))
                  have K7 := Lib.hid (K6.out.trans hk7 (fun k hlt h => by have := M6.out.lF _ h; omega))
                  clear hu7 hk7
                  go_wp2_with fail
                  refine (pick12_any a.b 9 _ a3 (by decide) (by decide)).mono ?_
                  rintro e w9 ⟨rfl, rfl⟩
                  go_wp2_with fail
                  refine (M7.out.makeG (by omega) HLQ.out.symm RQ7.out HMK.out.2.1).mono ?_
                  rintro e w8 ⟨rfl, hu8, hk8⟩
                  have hz8 := hk8.size
                  have K8 := Lib.hid (K7.out.trans hk8 (fun k hlt h => by have := M7.out.lG _ h; omega))
                  obtain ⟨g3, c3, w10, happ1, hu10, hk10⟩ := hu8.pushX (by omega) (ns.length : Int) (by omega)
                  have hz10 := hk10.size
                  obtain ⟨g4, c4, w11, happ2, hu11, hk11⟩ := hu10.pushY (by omega) (ms.length : Int) (by have := hlxy.out; omega)
                  have FIN : Hid (UI w hb gb (k + 1) (.slice (some ⟨g3, 0, none⟩) (xs.length + 1) c3) (.slice (some ⟨g4, 0, none⟩) (ys.length + 1) c4) w11) := by
                    exact ⟨_, _, _, _, _, _, some ⟨g3, 0, none⟩, c3, some ⟨g4, 0, none⟩, c4, by simp, by simp [hlxy.out], HMK.out.2.2, hu11, (K8.out.trans hk10 (fun k hlt h => by omega)).trans hk11 (fun k hlt h => by omega)⟩
                  clear hu8 hk8 hu10 hk10 hu11 hk11
                  go_wp2_with (first | (at_builtin; refine wpList_append_run rfl (.tmp 169) (.tmp 171) 22 rfl rfl rfl happ1 ?_; clear happ1) | (at_builtin; refine wpList_append_run rfl (.tmp 173) (.tmp 175) 22 rfl rfl rfl happ2 ?_; clear happ2))
                  go_roundw
                  case rel => exact ⟨k + 1, by omega, by omega, by go_num, FIN⟩
                  case measure => (simp [intOf]; try omega)
      · have hn0 : ¬ xs.length = 0 := fun e => hb1 (.inr e)
        have h3 : ¬ pickP a.kind 7 ≤ 3 := fun e => hb1 (.inl e)
        have c3 : decide (pickP a.kind 7 ≤ 3) = false := by simpa using h3
        have c0 : ((xs.length : Int) == 0) = false := beq_eq_false_iff_ne.2 (by omega)
        have n0 : (0 : Int) < (xs.length : Int) := by omega
        have hzx : ∀ c, ∃ z : Nat, pickP c xs.length = z ∧ z < xs.length := fun c => by
          have h := pickP_range c xs.length n0
          exact ⟨(pickP c xs.length).toNat, by omega, by omega⟩
        have HZ := Lib.hid hzx
        have hx6 : (xs.length : Int) ≤ 1000000 := by omega
        have hpk := Lib.hid (fun c W (hc : I64 c) => pick12_any c xs.length W hc n0 hx6)
        have hw5 : w.heap.size ≤ w5.heap.size := by omega
        have hoffX : Hid (∀ {b}, F b ∨ G b → b ≠ X) := fun {b} hb e => by have : b < X := hoff.out b hb; omega
        clear hb1 hn0 h3 hzx
        by_cases h4 : pickP a.kind 7 = 4
        · have b4 : (pickP a.kind 7 == 4) = true := by simp; omega
          obtain ⟨i, hi, hil⟩ := HZ.out a.a
          obtain ⟨j, hj, hjl⟩ := HZ.out a.b
          have HPA : Hid (∀ W, Calls Try.prog 50 #[.int .i64 a.a, .int .i64 (xs.length : Int)] W fun e w' => e = .returned (.int .i64 (i : Int)) ∧ W = w') := fun W => hi ▸ hpk.out a.a W a2
          have HPB : Hid (∀ W, Calls Try.prog 50 #[.int .i64 a.b, .int .i64 (xs.length : Int)] W fun e w' => e = .returned (.int .i64 (j : Int)) ∧ W = w') := fun W => hj ▸ hpk.out a.b W a3
          have hxi : xs[i]? = some xs[i] := List.getElem?_eq_getElem hil
          have hxj : xs[j]? = some xs[j] := List.getElem?_eq_getElem hjl
          have hyi : ys[i]? = some (ys[i]'(by rw [hlxy.out]; exact hil)) := List.getElem?_eq_getElem _
          have hyj : ys[j]? = some (ys[j]'(by rw [hlxy.out]; exact hjl)) := List.getElem?_eq_getElem _
          obtain ⟨p, q, hp, hq, hpe, hul⟩ := HUL.out.point hxi hyi hxj hyj
          obtain ⟨gx, cx', he, hcx⟩ := row_at M5.out.x rfl hxi
          injection he with he _ hc
          subst he hc
          obtain ⟨gy, cy', he, hcy⟩ := row_at M5.out.y rfl hyi
          injection he with he hll hc
          subst he hc
          clear hll
          obtain ⟨gx', cx', he, hcx2⟩ := row_at M5.out.x rfl hxj
          injection he with he _ hc
          injection he with he
          injection he with he
          subst he hc
          obtain ⟨gy', cy', he, hcy2⟩ := row_at M5.out.y rfl hyj
          injection he with he hll hc
          injection he with he
          injection he with he
          subst he hc
          clear hll
          have HXY := Lib.hid (And.intro hcx2 hcy2)
          generalize xs[i] = x0 at *
          generalize xs[j] = x1 at *
          generalize ys[i]'(by rw [hlxy.out]; exact hil) = y0 at *
          generalize ys[j]'(by rw [hlxy.out]; exact hjl) = y1 at *
          have hlns : ns.length ≤ 4000 := by have := HUL.out.ln; omega
          have hlms : ms.length ≤ 4000 := by have := HUL.out.lm; omega
          obtain ⟨er, her⟩ : ∃ er, (pointP ns p x1).2 = er := ⟨_, rfl⟩
          have her2 : (pointP ms q y1).2 = er := hpe ▸ her
          have HUL2 := Lib.hid hul
          have HR1 := Lib.hid (resolve_yes M5.out.h HUL.out.gn.acyc x0 p hp)
          have HR2 := Lib.hid (resolve_yes M5.out.g HUL.out.gm.acyc y0 q hq)
          have HP1 : Hid (Calls Try.prog 51 #[.pointer (some ⟨hb, 0, none⟩), .int .i64 p, .int .i64 x1] w5.drew fun e w' => e = .returned (.int .i64 er) ∧ UM.CallH w.heap.size F G hb gb (.slice (some ⟨gx, 0, none⟩) xs.length cx) (.slice (some ⟨gy, 0, none⟩) xs.length cy) xs ys (pointP ns p x1).1 ms w5.drew w') :=
            her ▸ (M5.out.keptNo (Kept.refl No w5).drew).pointH (by show _ ≤ w5.heap.size; omega) HUL.out.gn.sane hlns p x1
          have HP2 : Hid (∀ (W : World) (F' : Nat → Prop) (ns' : List Nd), UM w.heap.size F' G hb gb (.slice (some ⟨gx, 0, none⟩) xs.length cx) (.slice (some ⟨gy, 0, none⟩) xs.length cy) xs ys ns' ms W → w.heap.size ≤ W.heap.size →
              Calls Try.prog 51 #[.pointer (some ⟨gb, 0, none⟩), .int .i64 q, .int .i64 y1] W fun e w' => e = .returned (.int .i64 er) ∧ UM w.heap.size F' (Grow G W w') hb gb (.slice (some ⟨gx, 0, none⟩) xs.length cx) (.slice (some ⟨gy, 0, none⟩) xs.length cy) xs ys ns' (pointP ms q y1).1 w' ∧ Kept G W w') :=
            fun W F' ns' u hw => her2 ▸ u.pointG hw HUL.out.gm.sane hlms q y1
          have hgx : gx < w5.heap.size := (M5.out.x.lt gx rfl).2
          have hgy : gy < w5.heap.size := (M5.out.y.lt gy rfl).2
          have hgF : Hid (¬ F gx ∧ ¬ F gy) := ⟨(M5.out.xF gx rfl).1, (M5.out.yF gy rfl).1⟩
          have hXF : Hid (¬ F X) := fun e => hoffX.out (.inl e) rfl
          clear hi hj hxi hxj hyi hyj hp hq hpe hul her her2
          go_wp2_with fail
          refine (HPA.out _).mono ?_
          rintro e w9 ⟨rfl, rfl⟩
          go_wp2_with fail
          refine HR1.out.mono ?_
          rintro e w9 ⟨rfl, rfl⟩
          go_wp2_with fail
          refine (HPA.out _).mono ?_
          rintro e w9 ⟨rfl, rfl⟩
          go_wp2_with fail
          refine HR2.out.mono ?_
          rintro e w9 ⟨rfl, rfl⟩
          go_wp2_with fail
          go_region_law (first
            | (go_simp; go_at_call 50; refine (HPB.out _).mono ?_; rintro e w9 ⟨rfl, rfl⟩)
            | (go_simp; go_at_call 51; have hu9 := hu7; refine (HP2.out _ _ _ hu7 (by omega)).mono ?_; rintro e w8 ⟨rfl, hu8, hk8⟩; have hz8 := hk8.size; clear hu9)
            | (go_simp; go_at_call 51; refine HP1.out.mono ?_; rintro e w7 ⟨rfl, hu7, hk7⟩; have hz7 : w5.heap.size ≤ w7.heap.size := hk7.size; have f2' := (hk7.cell (p := ⟨X, 2, none⟩) (by show X < w5.heap.size; omega) hXF.out).trans f2; have hcy2' := (hk7.cell (p := ⟨gy, j, none⟩) hgy hgF.out.2).trans HXY.out.2))
          all_goals
            have FIN : Hid (UI w hb gb (k + 1) (.slice (some ⟨gx, 0, none⟩) xs.length cx) (.slice (some ⟨gy, 0, none⟩) xs.length cy) w8) :=
              ⟨_, _, xs, ys, _, _, _, _, _, _, rfl, rfl, HUL2.out.mono (Nat.le_succ _), hu8, (K5.out.drew.trans hk7 (fun i hlt h => by have := M5.out.lF i h; omega)).trans hk8 (fun i hlt h => by have := M5.out.lG i h; omega)⟩
            clear hu7 hk7 hu8 hk8 f2' hcy2'
            as_aux_lemma =>
              go_wp2_with fail
              go_roundw
              case rel => exact ⟨k + 1, by omega, by omega, by go_num, FIN⟩
              case measure => (simp [intOf]; try omega)
        · by_cases h5 : pickP a.kind 7 = 5
          · have b4 : (pickP a.kind 7 == 4) = false := beq_eq_false_iff_ne.2 h4
            have b5 : (pickP a.kind 7 == 5) = true := by simp; omega
            obtain ⟨i, hi, hil⟩ := HZ.out a.a
            have HPA : Hid (∀ W, Calls Try.prog 50 #[.int .i64 a.a, .int .i64 (xs.length : Int)] W fun e w' => e = .returned (.int .i64 (i : Int)) ∧ W = w') := fun W => hi ▸ hpk.out a.a W a2
            have hxi : xs[i]? = some xs[i] := List.getElem?_eq_getElem hil
            have hyi : ys[i]? = some (ys[i]'(by rw [hlxy.out]; exact hil)) := List.getElem?_eq_getElem _
            obtain ⟨gx, cx', he, _⟩ := row_at M5.out.x rfl hxi
            injection he with he _ hc
            subst he hc
            obtain ⟨gy, cy', he, _⟩ := row_at M5.out.y rfl hyi
            injection he with he hll hc
            subst he hc
            clear hll
            have HDR := Lib.hid (HUL.out.drop hil)
            have kd : Kept No w5 w5.drew := (Kept.refl No w5).drew
            have hx5 := own_kept M5.out.x kd (fun _ _ h => h)
            have hcx : xs.length ≤ cx := by
              obtain ⟨_, A, c, e, h, _⟩ := own_reads hx5 (F := fun _ => True) (fun _ _ => trivial)
              injection e with _ _ e3
              omega
            obtain ⟨A1, c1, w6, g2, c2, w7, happ1, happ2, ho7, hk7⟩ := run_drop hx5 hil (by omega)
            have hu7 := M5.out.setX (own_base ho7 (fun k hk => by have h : w5.heap.size ≤ k := (ho7.lt k hk).1; omega)) (kd.thenNo hk7).all (fun k hk => .inr (ho7.lt k hk).1)
            have kd7 : Kept No w7 w7.drew := (Kept.refl No w7).drew
            have hz7 : w5.heap.size ≤ w7.heap.size := hk7.size
            have hy7 := own_kept hu7.y kd7 (fun _ _ h => h)
            have hcy : xs.length ≤ cy := by
              obtain ⟨_, A, c, e, h, _⟩ := own_reads hy7 (F := fun _ => True) (fun _ _ => trivial)
              injection e with _ e2 e3
              omega
            have hy8 : w7.drew.ownsRow w.heap.size 3 1 (.slice (some ⟨gy, 0, none⟩) ys.length cy) ys.length (ints ys) := by
              rw [hlxy.out] at hy7 ⊢
              exact hy7
            obtain ⟨A3, c3, w8, g4, c4, w9, happ3, happ4, ho9, hk9⟩ := run_drop hy8 (by rw [hlxy.out]; exact hil) (by have := hlxy.out; omega)
            have hu9 := hu7.setY (own_base ho9 (fun k hk => by have h : w7.heap.size ≤ k := (ho9.lt k hk).1; omega)) (kd7.thenNo hk9).all (fun k hk => .inr (ho9.lt k hk).1)
            rw [hlxy.out] at happ4 hu9
            have FIN : Hid (UI w hb gb (k + 1) (.slice g2 (xs.length - 1) c2) (.slice g4 (xs.length - 1) c4) w9) :=
              ⟨_, _, _, _, _, _, g2, c2, g4, c4, by simp; omega, by simp; omega, HDR.out.mono (Nat.le_succ _), hu9, ((K5.out.thenNo kd).thenNo hk7).thenNo (kd7.thenNo hk9)⟩
            have il1 : (i : Int) + 1 ≤ (xs.length : Int) := by omega
            have il2 : (i : Int) ≤ (xs.length : Int) := by omega
            have il3 : i ≤ cx := by omega
            have iw : IntKind.i64.wrap ((i : Int) + 1) = (i : Int) + 1 := IntWalk.i64_in _ (by omega)
            have iw0 : (0 : Int) ≤ (i : Int) + 1 := by omega
            have il4 : i ≤ cy := by omega
            clear hu7 hu9 hk7 hk9 ho7 ho9 kd kd7 hx5 hy7 hy8 hxi hyi hi z5
            go_wp2_with fail
            refine (HPA.out _).mono ?_
            rintro e w10 ⟨rfl, rfl⟩
            go_wp2_with fail
            go_region_law (first
              | (refine step_append_run rfl (.tmp 232) (.tmp 235) 22 rfl rfl rfl happ1 ?_; clear happ1)
              | (refine step_append_run rfl (.tmp 236) (.tmp 240) 22 rfl rfl rfl happ2 ?_; clear happ2))
            all_goals go_wp2_with fail
            all_goals
              go_region_law (first
                | (refine step_append_run rfl (.tmp 242) (.tmp 245) 22 rfl rfl rfl happ3 ?_; clear happ3)
                | (refine step_append_run rfl (.tmp 246) (.tmp 250) 22 rfl rfl rfl happ4 ?_; clear happ4))
            all_goals
              as_aux_lemma =>
                go_wp2_with fail
                all_goals
                  go_roundw
                  case rel => exact ⟨k + 1, by omega, by omega, by go_num, FIN⟩
                  case measure => (simp [intOf]; try omega)
          · as_aux_lemma =>
              have b4 : (pickP a.kind 7 == 4) = false := beq_eq_false_iff_ne.2 h4
              have b5 : (pickP a.kind 7 == 5) = false := beq_eq_false_iff_ne.2 h5
              obtain ⟨is, his⟩ := IsL.exists_ HUL.out.gn.sane HUL.out.gn.acyc
              obtain ⟨hok, hlen, hul⟩ := HUL.out.slide his
              have HC := Lib.hid (collect_any M5.out.h M5.out.bF HUL.out.gn (by decide) his (own_reads M5.out.x (F := fun k => (Value.slice Ax xs.length cx).ownBlock = some k) (fun k hk => hk)) (fun k hk hf => (M5.out.xF k hk).1 hf) (by omega))
              have HOK := Lib.hid hok
              have HLN := Lib.hid hlen
              have HUL2 := Lib.hid hul
              clear hok hlen hul his
              go_wp2_with fail
              refine HC.out.mono ?_
              rintro e w7 ⟨_, hc⟩
              obtain ⟨v7, m, rfl, h7, o7, hm1, hm2, k7⟩ := hc HOK.out
              clear hc
              obtain ⟨A7, c7, rfl⟩ := (own_reads o7 (F := fun _ => True) (fun _ _ => trivial)).slice
              have o7' : w7.ownsRow m 3 1 (.slice A7 xs.length c7) (toOf ns is xs).length (ints (toOf ns is xs)) := by rw [HLN.out]; exact o7
              have hu7 := M5.out.slide hw5 h7 o7' hm1 hm2 k7
              have FIN : Hid (UI w hb gb (k + 1) (.slice A7 xs.length c7) (.slice Ay xs.length cy) w7) :=
                ⟨_, _, _, _, _, _, A7, c7, Ay, cy, by rw [HLN.out], by rw [HLN.out], HUL2.out.mono (Nat.le_succ _), hu7, K5.out.trans k7 (fun i hlt h => by have := M5.out.lF i h; omega)⟩
              clear h7 o7 o7' hu7 k7 hm1 hm2
              go_wp2_with fail
              go_roundw
              case rel => exact ⟨k + 1, by omega, by omega, by go_num, FIN⟩
              case measure => (simp [intOf]; try omega)
    · have hgo2 : ¬ ((k : Int) < (rs.length : Int)) ∨ ((k : Int) < (rs.length : Int)) ∧ ¬ ((k : Int) < 600) := by omega
      obtain ⟨R, hR, hH⟩ := HUL.out.sim
      have HBs := Lib.hid (hR.bisim HUL.out.gn.sane)
      have HHd := Lib.hid hH
      have hln : ns.length ≤ 4000 := by have := HUL.out.ln; omega
      have hlm : ms.length ≤ 4000 := by have := HUL.out.lm; omega
      clear hR hH hgo
      obtain ⟨w4, hw4⟩ : ∃ w4, w4 = wr := ⟨_, rfl⟩
      subst hw4
      rcases hgo2 with hg1 | ⟨hg1, hg2⟩
      all_goals
        go_wp2_with fail
        refine (told_law12 HUM.out.h HUM.out.bF HUL.out.gn.sane hln).mono ?_
        rintro e w5 ⟨tv, rfl, h5, k5⟩
        obtain ⟨A5, c5, rfl⟩ := h5.reads.slice
        have M5 := Lib.hid (HUM.out.keptNo k5)
        have HN5 := Lib.hid (h5.reads.mono (fun _ _ _ => trivial) : NodesR w5 (fun _ => True) _ _)
        have K5 := Lib.hid (HKw.out.thenNo k5)
        clear h5 k5
        go_wp2_with fail
        refine (told_law12 M5.out.g M5.out.bG HUL.out.gm.sane hlm).mono ?_
        rintro e w6 ⟨tv, rfl, h6, k6⟩
        obtain ⟨A6, c6, rfl⟩ := h6.reads.slice
        have HM6 := Lib.hid (h6.reads.mono (fun _ _ _ => trivial) : NodesR w6 (fun _ => True) _ _)
        have HN6 := Lib.hid (HN5.out.keptNo k6)
        have X6 := Lib.hid (own_kept M5.out.x k6 (fun _ _ h => h))
        have Y6 := Lib.hid (own_kept M5.out.y k6 (fun _ _ h => h))
        have K6 := Lib.hid (K5.out.thenNo k6)
        clear h6 k6 M5 HN5 K5
        go_wp2_with fail
        go_loopw [33] (fun t33 wr => ∃ i : Nat, i ≤ xs.length ∧ t33 = .int .i64 i ∧ Hid (Kept No w6 wr)) (fun t33 _ => xs.length - (intOf t33).toNat)
        case atStart => exact ⟨0, by omega, rfl, Kept.refl _ _⟩
        case round =>
          obtain ⟨i, hi, rfl, HK⟩ := hrel
          by_cases hil : i < xs.length
          · have hxi : xs[i]? = some xs[i] := List.getElem?_eq_getElem hil
            have hyi : ys[i]? = some (ys[i]'(by rw [hlxy.out]; exact hil)) := List.getElem?_eq_getElem _
            obtain ⟨gx, cx', he, hcx⟩ := row_at (own_kept X6.out HK.out (fun _ _ h => h)) rfl hxi
            injection he with he _ hc
            subst he hc
            obtain ⟨gy, cy', he, hcy⟩ := row_at (own_kept Y6.out HK.out (fun _ _ h => h)) rfl hyi
            injection he with he hll hc
            subst he hc
            clear hll
            obtain ⟨x', y', e1, e2, e3⟩ := HHd.out i _ _ hxi hyi
            have hcall := Lib.hid (fun (W : World) (hW : Kept No w6 W) => alike_any (HN6.out.keptNo hW) (HM6.out.keptNo hW) hln hlm HUL.out.gn.acyc HUL.out.gm.acyc HBs.out _ _ _ _ e1 e2 e3)
            generalize xs[i] = x0 at *
            generalize ys[i]'(by rw [hlxy.out]; exact hil) = y0 at *
            have il1 : (i : Int) < (xs.length : Int) := by omega
            clear hxi hyi e1 e2 e3
            go_wp2_with fail
            go_region_law (first | (go_simp; go_at_call 49; refine (hcall.out _ (HK.out.drew)).mono ?_; rintro e w7 ⟨rfl, k7⟩))
            all_goals
              have K7 := Lib.hid (HK.out.drew.thenNo k7)
              clear k7
              as_aux_lemma =>
                go_wp2_with fail
                go_roundw
                case rel => exact ⟨i + 1, by omega, by go_num, K7⟩
                case measure => (simp [intOf]; try omega)
          · have hie : i = xs.length := by omega
            subst hie
            have fin := Lib.hid (K6.out.thenNo HK.out)
            go_wp2_with fail
            go_ret
            exact ⟨rfl, fin.out⟩
end Go.Proofs.Ytooalgnppnmeaaa
