/- HeapRanges: the walk. -/
import Derived.Test.YtooalgnppnmeaaaRangesJ
import Derived.RangeFuncCalls
import Derived.Stop.RegionWithIn
import Derived.Sort.QuietIn
import Derived.Sort.CutIn
namespace Go.Proofs.Ytooalgnppnmeaaa
open Go.RowKit Go.Shelf
attribute [local go_sem] Oper.semAt_some

theorem results_cell1 {P : Program} {fn : Func} {p : Tmp} {t : TypeId} {d : TypeDesc} (h : fn.results = #[.cell p t]) (tmps : Array Value) (w : World) {g : Nat} {v : Value}
    (h1 : tmps.getD p undef = .pointer (some ⟨g, 0, none⟩)) (c1 : w.cell? ⟨g, 0, none⟩ = some v)
    (u1 : P.underlying t = some d) (e1 : (match d with | .struct _ | .array _ _ => true | _ => false) = false) :
    (results fn tmps).run P w = .ok v w := by
  have h1' : tmps[p]?.getD undef = .pointer (some ⟨g, 0, none⟩) := by simpa using h1
  simp [results, h, h1', asAddr, loadVar, Sem.run_bind, Result.andThen, run_isAgg_plain u1 e1, go_sem, c1]

set_option maxRecDepth 100000 in
set_option maxHeartbeats 4000000 in
theorem heapRanges_any (room : Int) (v : Value) (rs : List Rw) (at_ : Int) (v3 : Value) (more : List Rw) (w : World) (hroom : I64 room) (hl : RawsR w (fun _ => True) v rs) (hI : ∀ x ∈ rs, x.ok) (hsz : rs.length ≤ 9223372036854775807) (hat : I64 at_) (hm : RawsR w (fun _ => True) v3 more) (hmI : ∀ x ∈ more, x.ok) (_hmsz : more.length ≤ 9223372036854775807) :
    Calls Try.prog 7 #[.int .i64 room, v, .int .i64 at_, v3] w (RetYes w) := by
  obtain ⟨A, c, rfl⟩ := RowR.slice hl
  obtain ⟨A3, c3, rfl⟩ := RowR.slice hm
  have HL := Lib.hid hl
  have HI := Lib.hid hI
  have HM := Lib.hid hm
  have HMI := Lib.hid hmI
  clear hl hI hm hmI
  have hp := pickP_range room 200 (by decide)
  refine (callsIn_wide (n := 9)).1 ?_
  refine callsIn_of_wp_marks Try.func7 rfl trivial ?_ rfl
  simp only [Try.ntmps7, List.size_toArray, List.length_cons, List.length_nil, Nat.reduceAdd, Nat.reduceSub, Array.replicate_succ, Array.replicate_zero, List.push_toArray, List.append_toArray, List.nil_append, List.cons_append]
  gi_wp2_with fail
  refine ⟨trivial, (callsIn_wide.2 (awake11_any _)).mono ?_⟩
  rintro e w1 ⟨rfl, k1⟩
  obtain ⟨N, hN⟩ : ∃ N, w.heap.size = N := ⟨_, rfl⟩
  have g6 : w1.heap[N]? = some (.cells #[.int .i64 at_] 3 (0, 0)) := k1.blk (hN ▸ blk_alloc (blk_alloc (heap_alloc_new w _) _) _) (fun h => h)
  have g7 : w1.heap[N + 1]? = some (.cells #[.slice A3 more.length c3] 37 (0, 0)) := k1.blk (hN ▸ blk_alloc (by simpa using heap_alloc_new (w.alloc _) _) _) (fun h => h)
  have g8 : w1.heap[N + 2]? = some (.cells #[.bool false] 4 (0, 0)) := k1.blk (by rw [← hN]; simpa using heap_alloc_new ((w.alloc _).alloc _) _) (fun h => h)
  have hz1 : N + 3 ≤ w1.heap.size := by have := k1.size; simp only [World.size_alloc] at this; omega
  have K1 := Lib.hid ((((Kept.refl No w).alloc (.cells #[.int .i64 at_] 3)).alloc (.cells #[.slice A3 more.length c3] 37)).alloc (.cells #[.bool false] 4) |>.thenNo k1)
  have HM1 := Lib.hid ((RowR.keptNo HM.out K1.out).mono (F' := fun b => b < w1.heap.size) (fun b _ hb => hb) : RawsR w1 (fun b => b < w1.heap.size) _ more)
  have G6 := Lib.hid g6
  have G7 := Lib.hid g7
  have G8 := Lib.hid g8
  clear k1 g6 g7 g8 HM
  simp only [hN, Nat.add_assoc, Nat.reduceAdd]
  have hw1 := K1.out.size
  gi_wp2_with fail
  refine ⟨trivial, (callsIn_wide.2 (grown_any room _ rs _ hroom (RowR.keptNo HL.out K1.out) HI.out hsz)).mono ?_⟩
  rintro e w2 ⟨hb, ns, rfl, h2, hg, k2⟩
  generalize hR : 1 + pickP room 200 = R at *
  have hR1 : 1 ≤ R := by omega
  have hR2 : R ≤ 200 := by omega
  have hlen : ns.length ≤ 200 := by have := hg.len; omega
  have H2 := Lib.hid h2
  have HG := Lib.hid hg
  have hz2 := k2.size
  have HM2 := Lib.hid (HM1.out.keptNo k2)
  have G62 := Lib.hid (k2.blk G6.out (fun h => h))
  have G72 := Lib.hid (k2.blk G7.out (fun h => h))
  have G82 := Lib.hid (k2.blk G8.out (fun h => h))
  have K2 := Lib.hid (K1.out.thenNo k2)
  clear h2 hg k2 HM1 G6 G7 G8 K1 hp hR HL HI
  gi_wp2_with fail
  have ka : Kept No w2 (w2.alloc (.cells #[.pointer (some ⟨hb, 0, none⟩)] 25)) := (Kept.refl No w2).alloc _
  refine ⟨trivial, (callsIn_wide.2 (told_law11 (H2.out.1.keptNo ka) (fun k hk => by have := hk.2; simp; omega) HG.out.sane (by omega))).mono ?_⟩
  rintro e w3 ⟨tv, rfl, h3, k3⟩
  obtain ⟨At, ct, rfl⟩ := h3.reads.slice
  have k23 := ka.thenNo k3
  have HT3 := Lib.hid h3.reads
  have H3 := Lib.hid (H2.out.1.keptNo k23)
  have HM3 := Lib.hid (HM2.out.keptNo k23)
  have G63 := Lib.hid (k23.blk G62.out (fun h => h))
  have G73 := Lib.hid (k23.blk G72.out (fun h => h))
  have G83 := Lib.hid (k23.blk G82.out (fun h => h))
  have G103 := Lib.hid (k3.blk (heap_alloc_new w2 (.cells #[.pointer (some ⟨hb, 0, none⟩)] 25)) (fun h => h))
  have K3 := Lib.hid (K2.out.thenNo k23)
  have hz3 : w2.heap.size + 1 ≤ w3.heap.size := by have := k3.size; simp only [World.size_alloc] at this; omega
  clear ka k3 k23 h3 HM2 G62 G72 G82 K2
  -- the boxes
  obtain ⟨M, hM⟩ : ∃ M, w3.heap.size = M := ⟨_, rfl⟩
  have k34 : Kept No w3 ((w3.alloc (.cells #[.slice At ns.length ct] 39)).alloc (.cells #[.int .i64 0] 3)) := ((Kept.refl No w3).alloc _).alloc _
  have g104 := k34.blk G103.out (fun h => h)
  have x10 : ((w3.alloc (.cells #[.slice At ns.length ct] 39)).alloc (.cells #[.int .i64 0] 3)).cell? ⟨w2.heap.size, 0, none⟩ = some (.pointer (some ⟨hb, 0, none⟩)) := by rw [cell_of_row _ _ _ _ _ _ g104]; rfl
  have g11 : ((w3.alloc (.cells #[.slice At ns.length ct] 39)).alloc (.cells #[.int .i64 0] 3)).heap[M]? = some (.cells #[.slice At ns.length ct] 39 (0, 0)) := hM ▸ blk_alloc (heap_alloc_new w3 _) _
  have g13 : ((w3.alloc (.cells #[.slice At ns.length ct] 39)).alloc (.cells #[.int .i64 0] 3)).heap[M + 1]? = some (.cells #[.int .i64 0] 3 (0, 0)) := by rw [← hM]; simpa using heap_alloc_new (w3.alloc _) _
  have z4 : ((w3.alloc (.cells #[.slice At ns.length ct] 39)).alloc (.cells #[.int .i64 0] 3)).heap.size = M + 2 := by simp [hM]
  obtain ⟨b10, hb10⟩ : ∃ b10, w2.heap.size = b10 := ⟨_, rfl⟩
  rw [hb10] at x10 g104
  simp only [hb10]
  gi_wp2_with fail
  clear x10
  refine ⟨trivial, (callsIn_wide.2 (all_any hb _)).mono ?_⟩
  rintro e wA ⟨rfl, hwA⟩
  have kA : Kept No w3 wA := hwA ▸ k34.alloc _
  have kA4 : Kept No ((w3.alloc (.cells #[.slice At ns.length ct] 39)).alloc (.cells #[.int .i64 0] 3)) wA := hwA ▸ (Kept.refl No _).alloc _
  have zA : wA.heap.size = M + 3 := by rw [← hwA]; simp [hM]
  have gb : wA.heap[M + 2]? = some (.cells #[.pointer (some ⟨hb, 0, none⟩)] 25 (0, 0)) := by
    rw [← hwA, ← z4]; exact heap_alloc_new _ _
  have J10 := Lib.hid (kA4.blk g104 (fun h => h))
  have J11 := Lib.hid (kA4.blk g11 (fun h => h))
  have J13 := Lib.hid (kA4.blk g13 (fun h => h))
  have JB := Lib.hid gb
  have J6 := Lib.hid (kA.blk G63.out (fun h => h))
  have J7 := Lib.hid (kA.blk G73.out (fun h => h))
  have J8 := Lib.hid (kA.blk G83.out (fun h => h))
  have HA := Lib.hid (H3.out.keptNo kA)
  have HMA := Lib.hid (HM3.out.keptNo kA)
  have HTA := Lib.hid (HT3.out.keptNo kA)
  have KA := Lib.hid (K3.out.thenNo kA)
  have HM0 := Lib.hid hM
  have hwM : w.heap.size ≤ M := by have := K3.out.size; omega
  simp only [hM] at zA hz3
  simp only [World.size_alloc, hM]
  clear hwA kA kA4 gb g104 g11 g13 k34 z4 G63 G73 G83 G103 H3 HM3 HT3 K3
  gi_wp2_with fail
  simp only [Nat.add_assoc, Nat.reduceAdd]
  have hpk := pickP_range at_ 10 (by decide)
  have hG := all_gives (w := wA) (box := M + 2) 8 (by omega) (by rw [cell_of_row _ _ _ _ _ _ JB.out]; rfl) (by omega) HA.out (by omega) HG.out.sane.few
  have HGv := Lib.hid hG
  clear hG
  generalize ha0 : Act.mk _ _ = a0
  refine wpIn_mono (Q := fun e a' W => (e = .normal ∨ e = .exit 0) ∧ ∃ D, wA.heap.size ≤ D ∧ a' = { a0 with defers := { target := .collected D, args := #[] } :: a0.defers } ∧ W.heap[D]? = some (.deferred (some [])) ∧ Kept (fun b => b = M + 1) wA W) ?first ?rest
  case first =>
    refine range_law rfl (by omega) (gf := 56) (lb := #[.pointer (some ⟨M + 2, 0, none⟩)]) (by rw [← ha0]; rfl) trivial (enters_of Try.func56 (by kernel_rfl) rfl) HGv.out (fun _ => rfl)
      (fun pre W => W.heap[M + 1]? = some (.cells #[.int .i64 (pre.length : Int)] 3 (0, 0)) ∧ Kept (fun b => b = M + 1) wA W) (fun c pre W => c = .exit 0 ∧ Kept (fun b => b = M + 1) wA W)
      (fun pre x a' W => (W.heap[M + 1]? = some (.cells #[.int .i64 (pre.length : Int)] 3 (0, 0)) ∧ Kept (fun b => b = M + 1) wA W) ∧ a' = { tmps := (#[38, 39].zip (ydArgs x)).foldl (fun t (p, v) => t.setIfInBounds p v) a0.tmps, defers := [] })
      ?hI ?hIx (AllS.own _ _ _) ?hAx ⟨J13.out, Kept.refl _ _⟩ ?assign ?body ?done ?stop
    case hI => exact fun pre X C row h hg hr => ⟨blk_turn h.1 rfl hg (fun r e => (hr r e).2), h.2.grown hg (fun k hk hlt => by have := (hr k hk).1; omega)⟩
    case hIx => exact fun c pre X C row h hg hr => ⟨h.1, h.2.grown hg (fun k hk hlt => by have := (hr k hk).1; omega)⟩
    case hAx => exact fun pre x a' _ X C row h hg hr => ⟨⟨blk_turn h.1.1 rfl hg (fun r e => (hr r e).2), h.1.2.grown hg (fun k hk hlt => by have := (hr k hk).1; omega)⟩, h.2⟩
    case assign =>
      intro l pre x W K hI hX hm hm2 hK
      refine wpIn_skip ?_
      exact hK _ _ (Kept.refl _ _) ⟨hI, rfl⟩
    case body =>
      rintro l pre ⟨m, i, av, nd⟩ a' W hl hrec ⟨⟨h13, hKW⟩, rfl⟩ hm hm2 hlen'
      have h6 := hKW.blk J6.out (by omega)
      have c13 : W.cell? ⟨M + 1, 0, none⟩ = some (.int .i64 (pre.length : Int)) := by rw [cell_of_row _ _ _ _ _ _ h13]; rfl
      have f13 : W.frozen? ⟨M + 1, 0, none⟩ = false := frozen_of_row _ _ _ _ _ h13
      have c6 : W.cell? ⟨N, 0, none⟩ = some (.int .i64 at_) := by rw [cell_of_row _ _ _ _ _ _ h6]; rfl
      rw [← ha0]
      dsimp only [ydArgs, ndVal]
      have hst : Hid ((W.setCell ⟨M + 1, 0, none⟩ (.int .i64 ((pre.length : Int) + 1))).heap[M + 1]? = some (.cells #[.int .i64 ((pre.length : Int) + 1)] 3 (0, 0))) := by
        show _ = _
        simpa using blk_set h13 0 (.int .i64 ((pre.length : Int) + 1))
      have HKW := Lib.hid hKW
      clear h13 hKW h6
      by_cases hpe : (pre.length : Int) = pickP at_ 10
      · have hb1 : ((pre.length : Int) == pickP at_ 10) = true := by rw [hpe]; simp
        clear hpe
        gi_wp2_with fail
        gi_region_with (refine ⟨trivial, CallsIn.inRound l ((callsIn_wide.2 (pick_any at_ 10 _ hat (by decide) (by decide))).mono ?_)⟩; rintro e w' ⟨rfl, rfl⟩)
        all_goals
          gi_wp2_with fail
          exact ⟨(Kept.refl _ W).drew, rfl, HKW.out.drew⟩
      · have hb1 : ((pre.length : Int) == pickP at_ 10) = false := by simpa using hpe
        clear hpe
        gi_wp2_with fail
        gi_region_with (refine ⟨trivial, CallsIn.inRound l ((callsIn_wide.2 (pick_any at_ 10 _ hat (by decide) (by decide))).mono ?_)⟩; rintro e w' ⟨rfl, rfl⟩)
        all_goals
          gi_wp2_with fail
          exact ⟨((Kept.refl _ W).setCell (p := ⟨M + 1, 0, none⟩) (.inl (by unfold Outer; dsimp only; omega)) _).drew, by show (W.setCell ⟨M + 1, 0, none⟩ (.int .i64 ((pre.length : Int) + 1))).heap[M + 1]? = _; simpa using hst.out, (HKW.out.setCell (p := ⟨M + 1, 0, none⟩) (.inl rfl) _).drew⟩
    case done =>
      rintro D xs W hD hS hI hdef
      exact ⟨.inl rfl, D, hD, rfl, hdef, hI.2⟩
    case stop =>
      rintro D c pre W hD _ ⟨rfl, hk⟩ hdef
      refine wpIn_exit ?_
      exact ⟨.inr rfl, D, hD, rfl, hdef, hk⟩
  case rest =>
    rintro e a' W ⟨he, D, hD, rfl, hdef, hkW⟩
    rw [← ha0]
    refine (show ∀ {Q : Exit → Act → World → Prop} {a : Act}, (∀ a W, Q .normal a W → Q (.exit 0) a W) → Q .normal a W → Q e a W from fun h1 h2 => by rcases he with rfl | rfl; exact h2; exact h1 _ _ h2) (fun _ _ h => h) ?_
    clear he
    -- behind the first range
    have I6 := Lib.hid (hkW.blk J6.out (by omega))
    have I7 := Lib.hid (hkW.blk J7.out (by omega))
    have I8 := Lib.hid (hkW.blk J8.out (by omega))
    have I10 := Lib.hid (hkW.blk J10.out (by omega))
    have I11 := Lib.hid (hkW.blk J11.out (by omega))
    have IB := Lib.hid (hkW.blk JB.out (by omega))
    have hFb : Hid (∀ b, Sc w1.heap.size w2 b → w1.heap.size ≤ b ∧ b < b10) := fun b hb => by have := hb.1; have := hb.2; omega
    have HW := Lib.hid (HA.out.kept hkW (fun b hb e => by have := hFb.out b hb; omega))
    have HMW := Lib.hid (RowR.kept HMA.out hkW (fun b hb e => by omega))
    have hTb : Hid (∀ b, News (w2.alloc (.cells #[.pointer (some ⟨hb, 0, none⟩)] 25)) w3 b → b10 + 1 ≤ b ∧ b < M) := fun b hb => by
      have h1 := hb.1; have h2 := hb.2
      have h3 := HM0.out
      simp only [World.size_alloc] at h1
      omega
    have HTW := Lib.hid (HTA.out.kept hkW (fun b hb e => by have := hTb.out b hb; omega))
    have KW := Lib.hid (KA.out.trans hkW (fun b hlt e => by omega))
    have HD := Lib.hid hdef
    have hzW := hkW.size
    clear J6 J7 J8 J10 J11 J13 JB HA HMA HTA KA hkW hdef HGv ha0
    gi_wp2_with fail
    -- the second range
    obtain ⟨B, hB⟩ : ∃ B, W.heap.size = B := ⟨_, rfl⟩
    have kV : Kept No W (W.alloc (.cells #[.int .i64 0] 3)) := (Kept.refl No W).alloc _
    have g15 : (W.alloc (.cells #[.int .i64 0] 3)).heap[B]? = some (.cells #[.int .i64 0] 3 (0, 0)) := hB ▸ heap_alloc_new W _
    have zV : (W.alloc (.cells #[.int .i64 0] 3)).heap.size = B + 1 := by simp [hB]
    rw [hB]
    generalize W.alloc (.cells #[.int .i64 0] 3) = V at *
    have V6 := Lib.hid (kV.blk I6.out (fun h => h))
    have V7 := Lib.hid (kV.blk I7.out (fun h => h))
    have V8 := Lib.hid (kV.blk I8.out (fun h => h))
    have V10 := Lib.hid (kV.blk I10.out (fun h => h))
    have V11 := Lib.hid (kV.blk I11.out (fun h => h))
    have VB := Lib.hid (kV.blk IB.out (fun h => h))
    have V15 := Lib.hid g15
    have VD := Lib.hid (kV.blk HD.out (fun h => h))
    have HV := Lib.hid (HW.out.keptNo kV)
    have HMV := Lib.hid (RowR.keptNo HMW.out kV)
    have HTV := Lib.hid (HTW.out.keptNo kV)
    have KV := Lib.hid (KW.out.thenNo kV)
    have hDB : D < B := by have := (Array.getElem?_eq_some_iff.1 HD.out).1; omega
    clear I6 I7 I8 I10 I11 IB HD HW HMW HTW KW kV g15
    have hG2 := all_gives (w := V) (box := M + 2) 8 (by omega) (by rw [cell_of_row _ _ _ _ _ _ VB.out]; rfl) (by omega) HV.out (by omega) HG.out.sane.few
    have HGv := Lib.hid hG2
    clear hG2
    generalize ha0 : Act.mk _ _ = a0
    refine wpIn_mono (Q := fun e a' W' => e = .normal ∧ ∃ D2, V.heap.size ≤ D2 ∧ a' = { a0 with defers := { target := .collected D2, args := #[] } :: a0.defers } ∧ W'.heap[D2]? = some (.deferred (some [])) ∧ W'.heap[D]? = some (.deferred (some [])) ∧
      W'.heap[N + 2]? = some (.cells #[.bool false] 4 (0, 0)) ∧ W'.heap[M]? = some (.cells #[.slice At ns.length ct] 39 (0, 0)) ∧ W'.heap[B]? = some (.cells #[.int .i64 (ns.length : Int)] 3 (0, 0)) ∧ Kept No w W') ?second ?rest2
    case second =>
      have sd : RgS w V N M B b10 D w1.heap.size := ⟨hz1, by omega, by omega, by omega, zV, hDB, hwM, by omega, by omega⟩
      have SD := Lib.hid sd
      have zS := zV
      refine range_law rfl (by omega) (gf := 56) (lb := #[.pointer (some ⟨M + 2, 0, none⟩)]) (by rw [← ha0]; rfl) trivial (enters_of Try.func56 (by kernel_rfl) rfl) HGv.out (fun _ => rfl)
        (fun pre W' => RgJ w V N M B b10 hb D w1.heap.size At ct A3 c3 R ns more (pre.length : Int) pre W') (fun _ _ _ => False)
        (fun pre x a' W' => RgJ w V N M B b10 hb D w1.heap.size At ct A3 c3 R ns more (pre.length : Int) pre W' ∧ YdAt V.heap.size ns pre x W' ∧ ∃ bx, B < bx ∧ NdBox bx x W' ∧ a' = { tmps := (((a0.tmps.setIfInBounds 47 (.int .i64 (x.i : Int))).setIfInBounds 48 (ndVal x.av x.nd)).setIfInBounds 16 (.int .i64 (x.i : Int))).setIfInBounds 17 (.pointer (some ⟨bx, 0, none⟩)), defers := [] })
        ?hI ?hIx (AllS.own _ _ _) ?hAx ?h0 ?assign ?body ?done ?stop
      case hI => exact RgJ.own sd (fun pre => (pre.length : Int))
      case hIx => exact fun _ _ _ _ _ h _ _ => h
      case hAx => exact fun pre x a' _ X C row h hg hr => ⟨RgJ.own sd (fun pre => (pre.length : Int)) pre X C row h.1 hg hr, YdAt.own _ _ _ _ _ () X C row h.2.1 hg hr, by
        obtain ⟨bx, h0, h1, h2⟩ := h.2.2
        exact ⟨bx, h0, NdBox.own _ _ _ () X C row h1 hg hr, h2⟩⟩
      case h0 =>
        refine ⟨Nat.le_refl _, V7.out, V8.out, V10.out, V11.out, V15.out, VD.out, HTV.out.mono (fun b hb _ => hTb.out b hb), HMV.out, ⟨_, ns, HV.out, HG.out, fun b hb => by have := hFb.out b hb; omega, fun b hb => .inl (hFb.out b hb), fun _ b hb => (hFb.out b hb).2⟩, KV.out⟩
      case assign =>
        rintro l pre ⟨m, i, av, nd⟩ W' K hI hX hm hm2 hK
        dsimp only [ydArgs, ndVal] at hX hm hm2 ⊢
        have hx3 : W'.ownsRow _ _ 1 av nd.args.length (ints nd.args) := hX.2.2.1
        obtain ⟨Av, cv, rfl⟩ := (own_reads hx3 (F := fun _ => True) (fun _ _ => trivial)).slice
        clear hx3
        have hsz := hI.size
        rw [zV] at hsz
        rw [← ha0] at hK ⊢
        dsimp only [ydArgs, ndVal] at hK ⊢
        have hK2 := Lib.hid (hK _ (W'.alloc (.cells #[.int .i64 nd.sym, .slice Av nd.args.length cv, .int .i64 nd.mark, .bool nd.pts, .int .i64 nd.to] 32)) ((Kept.refl _ W').alloc _)
          ⟨hI.keptNo ((Kept.refl No W').alloc _), YdAt.own _ 0 _ _ _ () W' _ none hX ((Kept.refl No W').alloc _).grownNo (fun r e => by cases e), _, by omega, heap_alloc_new W' _, rfl⟩)
        clear hK hI hX
        gi_wp2
        exact hK2.out
      case body =>
        rintro l pre ⟨m, i, av, nd⟩ a' W' hl hrec ⟨hI, hX, bx, hbB, hbx, rfl⟩ hm hm2 hlen'
        dsimp only [ndVal] at hX hbx hm hm2 ⊢
        obtain ⟨r0, hr0⟩ := hrec
        have hx3 : W'.ownsRow _ _ 1 av nd.args.length (ints nd.args) := hX.2.2.1
        obtain ⟨Av, cv, rfl⟩ := (own_reads hx3 (F := fun _ => True) (fun _ _ => trivial)).slice
        have hi : i = pre.length := hX.1
        subst hi
        have hnd : ns[pre.length]? = some nd := hX.2.1
        have hpm : Hid (∀ y ∈ pre, y.m = m) := hX.2.2.2.2
        have hsz := hI.size
        have hfew := HG.out.sane.few nd (List.mem_of_getElem? hnd)
        obtain ⟨⟨p0, p1, p2, p3, p4⟩, q0, q1, q2, q3, q4⟩ := cells5 hbx
        have c11 : W'.cell? ⟨M, 0, none⟩ = some (.slice At ns.length ct) := by rw [cell_of_row _ _ _ _ _ _ hI.j11]; rfl
        have c15 : W'.cell? ⟨B, 0, none⟩ = some (.int .i64 (pre.length : Int)) := by rw [cell_of_row _ _ _ _ _ _ hI.j15]; rfl
        obtain ⟨tb, ot, tc, tav, htv, htF, htb, m0, m1, m2, m3, m4, hrow⟩ := hI.told.at_ hnd
        injection htv with htA _ htc
        subst htA htc
        obtain ⟨Bv, dv, rfl⟩ := hrow.slice
        have hcall := Lib.hid (fun W => fun h => @sameNode_any (fun _ => True) (fun b => b10 + 1 ≤ b ∧ b < M) (.slice Av nd.args.length cv) (.slice Bv nd.args.length dv) nd nd W ((own_reads hx3 (F := fun _ => True) (fun _ _ => trivial)).keptNo h) (hrow.keptNo h) (by omega) (by omega))
        rw [decide_eq_true (rfl : nd = nd)] at hcall
        have HI := Lib.hid hI
        have HR0 := Lib.hid hr0
        rw [← ha0]
        clear hX hx3 hI hbx hrow hr0 hbB ha0 hnd
        gi_upto_region 15 with fail
        simp only [List.setIfInBounds_toArray, List.set_cons_succ, List.set_cons_zero]
        gi_cut [18] from 49 (fun t18 Wc => t18 = .bool true ∧ Hid (Kept No W' Wc))
        case first =>
          gi_wp2_with fail
          gi_region_with (refine ⟨trivial, CallsIn.inRound l ((callsIn_wide.2 (hcall.out _ ((Kept.refl No W').drew))).mono ?_)⟩; rintro e W1 ⟨rfl, k1⟩)
          all_goals
            apply_assumption
            refine Met.intro ?_
            apply_assumption
            (repeat apply Exists.intro)
            refine ⟨⟨rfl, ((Kept.refl No W').drew).thenNo k1⟩, rfl⟩
        obtain ⟨rfl, KC⟩ := hcut
        have hJc := HI.out.keptNo KC.out
        have HJc := Lib.hid (RgJ.next SD.out hJc (x := ⟨m, pre.length, .slice Av nd.args.length cv, nd⟩) hpm.out)
        have HRc := Lib.hid (KC.out.blk HR0.out (fun h => h))
        have d15 : wc.cell? ⟨B, 0, none⟩ = some (.int .i64 (pre.length : Int)) := by rw [cell_of_row _ _ _ _ _ _ hJc.j15]; rfl
        have d7 : wc.cell? ⟨N + 1, 0, none⟩ = some (.slice A3 more.length c3) := by rw [cell_of_row _ _ _ _ _ _ hJc.j7]; rfl
        have d10 : wc.cell? ⟨b10, 0, none⟩ = some (.pointer (some ⟨hb, 0, none⟩)) := by rw [cell_of_row _ _ _ _ _ _ hJc.j10]; rfl
        have hzc := KC.out.size
        have HPM : Hid (∀ y ∈ pre ++ [(⟨m, pre.length, .slice Av nd.args.length cv, nd⟩ : Yd)], y.m = m) := fun y hy => by
          rcases List.mem_append.1 hy with hy | hy
          · exact hpm.out y hy
          · rw [List.mem_singleton] at hy
            rw [hy]
        have hwcz := hJc.size
        clear p0 p1 p2 p3 p4 q0 q1 q2 q3 q4 c11 c15 m0 m1 m2 m3 m4 hJc hcall
        generalize hxe : (⟨m, pre.length, .slice Av nd.args.length cv, nd⟩ : Yd) = x at *
        have hxm : x.m = m := by rw [← hxe]
        gi_upto_if 71 with fail
        gi_cut [] from 49 (fun W2 => Hid (RgJ w V N M B b10 hb D w1.heap.size (some ⟨tb, ot, none⟩) ct A3 c3 R ns more (pre.length : Int) (pre ++ [x]) W2) ∧ Hid (Kept (Outer V.heap.size m) W' W2) ∧ Hid (W2.heap[l]? = some (.loop r0)) ∧ W'.heap.size ≤ W2.heap.size)
        case first =>
          by_cases hmr : pre.length < more.length
          · have hx : more[pre.length]? = some more[pre.length] := List.getElem?_eq_getElem hmr
            have hxo := HMI.out _ (List.mem_of_getElem? hx)
            obtain ⟨mb, mo, mc, hmv, _, _, e0, e1, e2, e3⟩ := HJc.out.raws.at_ hx
            injection hmv with hmA _ hmc
            subst hmA hmc
            generalize more[pre.length] = xr at *
            obtain ⟨F, ms, hO, hGd, hBd, hFw, _⟩ := HJc.out.heap
            have hml := hGd.len
            have hi1 : (pre.length : Int) < (more.length : Int) := by omega
            have hstep := Lib.hid (fun W => fun h => step_any (hO.keptNo (w' := W) h) (hBd.le h.size) hGd.sane (by omega) (by omega) xr hxo)
            have HS := Lib.hid (fun W' p hp hh hk => (RgJ.keptNo HJc.out (Kept.refl No wc).drew).stepped SD.out (x := x) (ms' := p) (W' := W') (by simp) (by rw [hxm]; exact HPM.out) (Nat.le_trans (by omega) (Kept.refl No wc).drew.size) hFw hk hh hp (hBd.le (Kept.refl No wc).drew.size))
            have hGd := Lib.hid hGd
            unfold rwVal at hstep
            clear hO hBd hFw
            gi_wp2_with fail
            gi_region_with (refine ⟨trivial, CallsIn.inRound l ((callsIn_wide.2 (hstep.out _ ((Kept.refl No wc).drew))).mono ?_)⟩; rintro e W2 ⟨p, hp, rfl, hh2, hk2⟩)
            all_goals
              obtain ⟨HJ2, hk3⟩ := HS.out W2 _ (hGd.out.step hp) hh2 hk2
              rw [hxm] at hk3
              have HR2 : Hid (W2.heap[l]? = some (.loop r0)) := hk3.mid hl.1 (by simpa [← hxe] using hl.2) ((Kept.refl No wc).drew.blk HRc.out (fun h => h))
              have HZ2 : W'.heap.size ≤ W2.heap.size := Nat.le_trans hzc (Nat.le_trans (Kept.refl No wc).drew.size hk3.size)
              have HK2 : Hid (Kept (Outer V.heap.size m) W' W2) := ((KC.out.mono (fun _ _ h => h.elim)).drew).trans hk3 (fun _ _ h => h)
              have HJ2 := Lib.hid HJ2
              clear hp hh2 hk2 hk3 HS hstep
              gi_wp2_with fail
              refine Met.intro ?_
              apply_assumption
              (repeat apply Exists.intro)
              refine ⟨⟨HJ2, HK2, HR2, HZ2⟩, rfl⟩
          · have hi1 : ¬ (pre.length : Int) < (more.length : Int) := by omega
            gi_wp2_with fail
            refine Met.intro ?_
            apply_assumption
            (repeat apply Exists.intro)
            refine ⟨⟨HJc, (KC.out.mono (fun _ _ h => h.elim)), HRc, hzc⟩, rfl⟩
        obtain ⟨HJ2, HK2, HR2, HZ2⟩ := hcut
        have b15 : wc.cell? ⟨B, 0, none⟩ = some (.int .i64 (pre.length : Int)) := by rw [cell_of_row _ _ _ _ _ _ HJ2.out.j15]; rfl
        clear d15 d7 d10 hwcz HJc HRc KC hzc
        gi_upto_if 79 with fail
        gi_cut [] from 49 (fun W2 => Hid (RgJ w V N M B b10 hb D w1.heap.size (some ⟨tb, ot, none⟩) ct A3 c3 R ns more (pre.length : Int) (pre ++ [x]) W2) ∧ Hid (Kept (Outer V.heap.size m) W' W2))
        case first =>
          by_cases h3 : pre.length < 3
          · have h3' : (pre.length : Int) < 3 := by omega
            obtain ⟨X, hX⟩ : ∃ X, wc.heap.size = X := ⟨_, rfl⟩
            have kX : Kept No wc (wc.alloc (.cells #[.int .i64 0] 3)) := (Kept.refl No wc).alloc _
            have x10 : (wc.alloc (.cells #[.int .i64 0] 3)).cell? ⟨b10, 0, none⟩ = some (.pointer (some ⟨hb, 0, none⟩)) := by rw [cell_of_row _ _ _ _ _ _ (kX.blk HJ2.out.j10 (fun h => h))]; rfl
            have gX : (wc.alloc (.cells #[.int .i64 0] 3)).heap[X]? = some (.cells #[.int .i64 0] 3 (0, 0)) := hX ▸ heap_alloc_new wc _
            gi_wp2_with fail
            refine ⟨trivial, CallsIn.inRound l ((callsIn_wide.2 (all_any hb _)).mono ?_)⟩
            rintro e w6 ⟨rfl, hw6⟩
            have k6 : Kept No wc w6 := hw6 ▸ kX.alloc _
            have z6 : w6.heap.size = X + 2 := by rw [← hw6]; simp [hX]
            have g6 : w6.heap[X]? = some (.cells #[.int .i64 0] 3 (0, 0)) := hw6 ▸ blk_alloc gX _
            have gb6 : w6.heap[X + 1]? = some (.cells #[.pointer (some ⟨hb, 0, none⟩)] 25 (0, 0)) := by
              rw [← hw6, show X + 1 = (wc.alloc (.cells #[.int .i64 0] 3)).heap.size by simp [hX]]; exact heap_alloc_new _ _
            obtain ⟨F, ms, hO, hGd, hBd, hFw, _⟩ := HJ2.out.heap
            have hml := hGd.len
            have hG6 := Lib.hid (all_gives (w := w6) (box := X + 1) 6 (by omega) (by rw [cell_of_row _ _ _ _ _ _ gb6]; rfl) (by omega) (hO.keptNo k6) (by omega) hGd.sane.few)
            have HL6 := Lib.hid (k6.blk HR2.out (fun h => h))
            have HO6 := Lib.hid (hO.keptNo k6)
            have G6 := Lib.hid g6
            have J10 := Lib.hid (k6.blk HJ2.out.j10 (fun h => h))
            have hFw := Lib.hid hFw
            have hBd := Lib.hid hBd
            have K6 := Lib.hid k6
            have hXv : V.heap.size ≤ X := hX ▸ HJ2.out.size
            have hmX : m ≤ X := by omega
            clear k6 g6 gb6 hO hGd hw6 x10 gX kX
            simp only [World.size_alloc, hX]
            gi_wp2_with fail
            generalize ha1 : Act.mk _ _ = a1
            refine wpIn_mono (Q := fun e a' W6 => e = .normal ∧ a' = a1 ∧ W6.heap[X]? = some (.cells #[.int .i64 (ms.length : Int)] 3 (0, 0)) ∧ Kept (fun b => b = X) w6 W6) ?inner ?after
            case inner =>
              refine range_lawN rfl HL6.out (by omega) (gf := 56) (lb := #[.pointer (some ⟨X + 1, 0, none⟩)]) (by rw [← ha1]; rfl) trivial (enters_of Try.func56 (by kernel_rfl) rfl) (show Gives (Fence.wide.inRound l) 6 _ _ _ _ _ _ _ _ _ _ _ from hG6.out) (fun _ => rfl)
                (fun p2 W6 => W6.heap[X]? = some (.cells #[.int .i64 (p2.length : Int)] 3 (0, 0)) ∧ Kept (fun b => b = X) w6 W6) (fun _ _ _ => False)
                (fun p2 x a' W6 => (W6.heap[X]? = some (.cells #[.int .i64 (p2.length : Int)] 3 (0, 0)) ∧ Kept (fun b => b = X) w6 W6) ∧ a' = { tmps := (#[82, 83].zip (ydArgs x)).foldl (fun t (p, v) => t.setIfInBounds p v) a1.tmps, defers := [] })
                ?hI2 ?hIx2 (AllS.own _ _ _) ?hAx2 ⟨G6.out, Kept.refl _ _⟩ ?assign2 ?body2 ?done2 ?stop2
              case hI2 => exact fun p2 Y C row h hg hr => ⟨blk_turn h.1 rfl hg (fun r e => (hr r e).2), h.2.grown hg (fun k hk hlt => by have := (hr k hk).1; omega)⟩
              case hIx2 => exact fun _ _ _ _ _ h _ _ => h
              case hAx2 => exact fun p2 x a' _ Y C row h hg hr => ⟨⟨blk_turn h.1.1 rfl hg (fun r e => (hr r e).2), h.1.2.grown hg (fun k hk hlt => by have := (hr k hk).1; omega)⟩, h.2⟩
              case assign2 =>
                intro l2 p2 x2 W6 K2 hI2 hX2 hm6 hm7 hK2
                refine wpIn_skip ?_
                exact hK2 _ _ (Kept.refl _ _) ⟨hI2, rfl⟩
              case body2 =>
                rintro l2 p2 ⟨m2, i2, av2, nd2⟩ a' W6 hl2 hrec2 ⟨⟨hx6, hk6⟩, rfl⟩ hm6 hm7 hlen2
                have e1 : W6.cell? ⟨X, 0, none⟩ = some (.int .i64 (p2.length : Int)) := by rw [cell_of_row _ _ _ _ _ _ hx6]; rfl
                have e2 : W6.frozen? ⟨X, 0, none⟩ = false := frozen_of_row _ _ _ _ _ hx6
                have hst : Hid ((W6.setCell ⟨X, 0, none⟩ (.int .i64 ((p2.length : Int) + 1))).heap[X]? = some (.cells #[.int .i64 ((p2.length : Int) + 1)] 3 (0, 0))) := by
                  show _ = _
                  simpa using blk_set hx6 0 (.int .i64 ((p2.length : Int) + 1))
                have HK6 := Lib.hid hk6
                rw [← ha1]
                dsimp only [ydArgs, ndVal]
                clear hx6 hk6
                gi_wp2_with fail
                exact ⟨(Kept.refl _ W6).setCell (p := ⟨X, 0, none⟩) (.inl (by unfold Outer; dsimp only; omega)) _, by simpa using hst.out, HK6.out.setCell (p := ⟨X, 0, none⟩) (.inl rfl) _⟩
              case done2 =>
                rintro xs W6 hS hI2
                have hxl : xs.length = ms.length := by rw [← hS.1, List.length_map]
                rw [hxl] at hI2
                exact ⟨rfl, rfl, hI2.1, hI2.2⟩
              case stop2 =>
                rintro c2 p2 W6 _ h
                exact h.elim
            case after =>
              rintro e a' W6 ⟨rfl, rfl, hx6, hk6⟩
              rw [← ha1]
              have e1 : W6.cell? ⟨X, 0, none⟩ = some (.int .i64 (ms.length : Int)) := by rw [cell_of_row _ _ _ _ _ _ hx6]; rfl
              have e2 : W6.cell? ⟨b10, 0, none⟩ = some (.pointer (some ⟨hb, 0, none⟩)) := by rw [cell_of_row _ _ _ _ _ _ (hk6.blk J10.out (by omega))]; rfl
              have huse := Lib.hid (fun Y => fun h => used_any (w := Y) ((HO6.out.kept hk6 (fun b hb e => by have := hBd.out b hb; omega)).keptNo h))
              have kk : Hid (Kept No wc W6) := K6.out.trans hk6 (fun b hlt e => by omega)
              clear hx6 hk6 ha1
              gi_wp2_with fail
              gi_region_with (refine ⟨trivial, CallsIn.inRound l ((callsIn_wide.2 (huse.out _ ((Kept.refl No W6).drew))).mono ?_)⟩; rintro e W7 ⟨rfl, rfl⟩)
              all_goals
                gi_wp2_with fail
                refine Met.intro ?_
                apply_assumption
                (repeat apply Exists.intro)
                refine ⟨⟨HJ2.out.keptNo kk.out.drew, HK2.out.trans kk.out.drew (fun _ _ h => h.elim)⟩, rfl⟩
          · have h3' : ¬ (pre.length : Int) < 3 := by omega
            gi_wp2_with fail
            refine Met.intro ?_
            apply_assumption
            (repeat apply Exists.intro)
            refine ⟨⟨HJ2, HK2⟩, rfl⟩
        clear HJ2 HK2 HR2 b15
        obtain ⟨HJ2, HK2⟩ := hcut
        have b15 : wc.cell? ⟨B, 0, none⟩ = some (.int .i64 (pre.length : Int)) := by rw [cell_of_row _ _ _ _ _ _ HJ2.out.j15]; rfl
        have f15 : wc.frozen? ⟨B, 0, none⟩ = false := frozen_of_row _ _ _ _ _ HJ2.out.j15
        gi_wp2_with fail
        have hnx := RgJ.count SD.out HJ2.out ((pre.length : Int) + 1)
        have hk2 := HK2.out
        rw [zV] at hk2
        refine ⟨hk2.setCell (p := ⟨B, 0, none⟩) (.inl (by unfold Outer; dsimp only; omega)) _, ?_⟩
        simpa using hnx
      case done =>
        rintro D2 xs W' hD2 hS hI hdef2
        have hxl : xs.length = ns.length := by rw [← hS.1, List.length_map]
        rw [hxl] at hI
        exact ⟨rfl, D2, hD2, rfl, hdef2, hI.jD, hI.j8, hI.j11, hI.j15, hI.kept⟩
      case stop =>
        rintro D2 c pre W' _ _ h _
        exact h.elim
    case rest2 =>
      rintro e a' W' ⟨rfl, D2, hD2, rfl, hdef2, hdef, h8, h11, h15, hK⟩
      have r11 : W'.cell? ⟨M, 0, none⟩ = some (.slice At ns.length ct) := by rw [cell_of_row _ _ _ _ _ _ h11]; rfl
      have r15 : W'.cell? ⟨B, 0, none⟩ = some (.int .i64 (ns.length : Int)) := by rw [cell_of_row _ _ _ _ _ _ h15]; rfl
      have r8 : W'.cell? ⟨N + 2, 0, none⟩ = some (.bool false) := by rw [cell_of_row _ _ _ _ _ _ h8]; rfl
      have f8 : W'.frozen? ⟨N + 2, 0, none⟩ = false := frozen_of_row _ _ _ _ _ h8
      have X8 := Lib.hid (blk_set h8 0 (.bool true))
      have XD2 := Lib.hid (blk_far (p := ⟨N + 2, 0, none⟩) hdef2 (by dsimp only; omega) (.bool true))
      have XD := Lib.hid (blk_far (p := ⟨N + 2, 0, none⟩) hdef (by dsimp only; omega) (.bool true))
      have XK := Lib.hid (hK.setCell (p := ⟨N + 2, 0, none⟩) (.inr (by dsimp only; omega)) (.bool true))
      rw [← ha0]
      clear h8 h11 h15 hdef hdef2 hK ha0
      gi_wp2_with fail
      have turn : ∀ (Y : World) (E : Nat), Y.heap[E]? = some (.deferred (some [])) → ∀ r, some E = some r → ∃ o : Obj, Y.heap[r]? = some o ∧ o.isCells = false := fun Y E h r e => by
        injection e with e
        subst e
        exact ⟨_, h, rfl⟩
      have hg := grownBy_putObj' (W'.setCell ⟨N + 2, 0, none⟩ (.bool true)) D2 (.deferred none)
      have y8 := blk_turn X8.out rfl hg (turn _ _ XD2.out)
      have yD : ((W'.setCell ⟨N + 2, 0, none⟩ (.bool true)).putObj D2 (.deferred none)).heap[D]? = some (.deferred (some [])) := (World.putObj_heap_other (by omega)).trans XD.out
      have hg2 := grownBy_putObj' ((W'.setCell ⟨N + 2, 0, none⟩ (.bool true)).putObj D2 (.deferred none)) D (.deferred none)
      have z8 := blk_turn y8 rfl hg2 (turn _ _ yD)
      have zK := (XK.out.grown hg (fun k hk hlt => by injection hk with hk; omega)).grown hg2 (fun k hk hlt => by injection hk with hk; omega)
      refine ⟨by simp, .inl ⟨_, _, rfl, run_takeDeferred XD2.out, ?_⟩⟩
      refine ⟨by simp, .inl ⟨_, _, rfl, run_takeDeferred yD, ?_⟩⟩
      refine ⟨_, results_cell1 (p := 8) rfl _ _ rfl (by rw [cell_of_row _ _ _ _ _ _ z8]; rfl) Try.underlying4 rfl, ?_⟩
      exact ⟨rfl, zK⟩
end Go.Proofs.Ytooalgnppnmeaaa
