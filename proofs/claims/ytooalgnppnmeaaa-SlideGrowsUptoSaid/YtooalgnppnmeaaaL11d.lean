/- lent, held. -/
import Derived.Test.YtooalgnppnmeaaaRH2
import Derived.Deep.RegionLaw
namespace Go.Proofs.Ytooalgnppnmeaaa
open Go.RowKit

/-- The first part of a row of one's own. -/
theorem own_first {w : World} {base : Nat} {e : TypeId} {g c n m : Nat} {xs ys : List Value} (h : w.ownsRow base e 1 (.slice (some ⟨g, 0, none⟩) (n + m) c) (n + m) (xs ++ ys)) (hn : xs.length = n) : w.ownsRow base e 1 (.slice (some ⟨g, 0, none⟩) n c) n xs := by
  obtain ⟨hl, h2⟩ := h
  rcases h2 with ⟨h0, _⟩ | ⟨g', cap, cur, e1, hg, hh, hnc, hcap, hsz, htake⟩
  · cases h0
  · injection e1 with e1 _ ec
    injection e1 with e1
    injection e1 with e1
    subst e1; subst ec
    refine ⟨by omega, .inr ⟨g, c, cur, rfl, hg, hh, by omega, hcap, hsz, ?_⟩⟩
    have h3 : (cur.toList.take ((n + m) * 1)).take (n * 1) = (xs ++ ys).take (n * 1) := by rw [htake]
    rw [List.take_take, Nat.min_eq_left (by omega)] at h3
    rw [h3]
    simp [← hn]
theorem own_cap {w : World} {base : Nat} {e : TypeId} {A : Option Addr} {c n : Nat} {xs : List Value} (h : w.ownsRow base e 1 (.slice A n c) n xs) : n ≤ c := by
  rcases h.2 with ⟨h0, h1⟩ | ⟨g', cap, cur, e1, hg, hh, hnc, _⟩
  · omega
  · injection e1 with _ _ ec
    omega

/-- What was lent. -/
def LentO (w : World) (base : Nat) (v : Value) (l : List Int) : Prop :=
  ∃ g c, v = .slice (some ⟨g, 0, none⟩) l.length c ∧ base ≤ g ∧ w.ownsRow 0 3 1 (.slice (some ⟨g, 0, none⟩) (l.length + 3) c) (l.length + 3) (ints (l ++ [-77, -77, -77]))
def RetLent (w : World) (l : List Int) (e : Ending) (w' : World) : Prop :=
  ∃ v, e = .returned v ∧ LentO w' w.heap.size v l ∧ Kept No w w'
theorem LentO.reads {w : World} {base : Nat} {v : Value} {l : List Int} (h : LentO w base v l) : RowR w 1 (fun k => v.ownBlock = some k) v l.length (ints l) := by
  obtain ⟨g, c, rfl, _, ho⟩ := h
  rw [ints_append] at ho
  exact own_reads (own_first ho (by simp)) (fun k hk => hk)
theorem LentO.kept {w w' : World} {base : Nat} {v : Value} {l : List Int} (h : LentO w base v l) {G : Nat → Prop} (hk : Kept G w w') (hd : ∀ k, v.ownBlock = some k → ¬ G k) : LentO w' base v l := by
  obtain ⟨g, c, rfl, hb, ho⟩ := h
  exact ⟨g, c, rfl, hb, own_kept ho hk (fun k hk2 => hd k (by simpa [Value.ownBlock] using hk2))⟩

/-- A row of whole numbers, in which those before k were written over. -/
theorem over_step (full : List Int) (k : Nat) (x : Int) (h : k < full.length) : (List.replicate k x ++ full.drop k).set k x = List.replicate (k + 1) x ++ full.drop (k + 1) := by
  rw [List.set_append_right _ _ (by simp), List.length_replicate, Nat.sub_self, List.drop_eq_getElem_cons h, List.set_cons_zero, List.replicate_succ', List.append_assoc]
  rfl

set_option maxRecDepth 100000 in
theorem lent_law11 (F : Nat → Prop) (v : Value) (l : List Int) (w : World) (hb : l.length ≤ 2000000) (h : RowR w 1 F v l.length (ints l)) : Calls Try.prog 59 #[v] w (RetLent w l) := by
  obtain ⟨A, c, rfl⟩ := h.slice
  obtain ⟨v', w2, happ, ho, hg, hat, _⟩ := run_append_row (P := Try.prog) (ty := 22) Try.underlying22 info3 rfl (by decide) (lit0 w) (h.keptNo ((Kept.refl No w).alloc (.cells #[] 3))) (ints_one l) (by omega) (by omega) (by simp)
  have k2 : Kept No w w2 := ((Kept.refl No w).alloc (.cells #[] 3)).grown hg (fun k hk hlt => by simp [Value.ownBlock] at hk; omega)
  have ho2 : w2.ownsRow w.heap.size 3 1 v' l.length (ints l) := by simpa [ints] using ho
  obtain ⟨A2, c2, rfl⟩ := (own_reads ho2 (F := fun _ => True) (fun _ _ => trivial)).slice
  obtain ⟨v3, w3, happ2, ho3, hg3, _, hs3⟩ := run_append_row (P := Try.prog) (ty := 22) Try.underlying22 info3 rfl (by decide) (ho2.alloc (.cells #[.int .i64 (-77), .int .i64 (-77), .int .i64 (-77)] 3)) (RowR.new w2 1 3 #[.int .i64 (-77), .int .i64 (-77), .int .i64 (-77)] 3 rfl) (ints_one [-77, -77, -77]) (by omega) (by omega) (Nat.le_trans k2.size (by simp))
  obtain ⟨g, c3, rfl⟩ := hs3 (by omega)
  have k3 : Kept No w w3 := (k2.alloc _).grown hg3 (fun k hk hlt => by have := (ho2.lt k hk).1; omega)
  have ho4 : w3.ownsRow w.heap.size 3 1 (.slice (some ⟨g, 0, none⟩) (l.length + 3) c3) (l.length + 3) (ints (l ++ [-77, -77, -77])) := by rw [ints_append]; exact ho3
  have hc3 := own_cap ho4
  have HF := Lib.hid (show RetLent w l (.returned (.slice (some ⟨g, 0, none⟩) l.length c3)) w3 from ⟨_, rfl, ⟨g, c3, rfl, (ho4.lt g rfl).1, own_zero ho4⟩, k3⟩)
  clear ho hg hat ho2 k2 h ho3 hg3 hs3 k3 ho4
  go_enter Try.func59, Try.ntmps59
  go_wp2_with (first | (at_builtin; refine wpList_append_run rfl (.tmp 4) (.tmp 5) 22 rfl rfl rfl happ ?_; clear happ) | (at_builtin; refine wpList_append_run rfl (.tmp 7) (.tmp 8) 22 rfl rfl rfl happ2 ?_; clear happ2))
  go_ret
  exact HF.out

set_option maxRecDepth 100000 in
set_option maxHeartbeats 2000000 in
theorem held_law11 {F : Nat → Prop} {base : Nat} {t v : Value} {l : List Int} {w : World} (ht : LentO w base t l) (h : RowR w 1 F v l.length (ints l)) (hb : l.length ≤ 2000000) (hd : ∀ k, t.ownBlock = some k → ¬ F k) :
    Calls Try.prog 61 #[t, v] w (fun e w' => e = .returned (.bool true) ∧ Kept (fun k => t.ownBlock = some k) w w') := by
  obtain ⟨A, c, rfl⟩ := h.slice
  obtain ⟨g, c2, rfl, _, ho⟩ := ht
  have hc2 := own_cap ho
  obtain ⟨full, hfull⟩ : ∃ full, full = l ++ [-77, -77, -77] := ⟨_, rfl⟩
  rw [← hfull] at ho
  have hfl : full.length = l.length + 3 := by rw [hfull]; simp
  have HR := Lib.hid h
  have HD := Lib.hid hd
  have HU := Lib.hid hfull
  have O0 := Lib.hid ho
  clear h hd ho hfull
  go_enter Try.func61, Try.ntmps61
  go_wp2_with fail
  go_loopw [6, 7] (fun t6 t7 wr => ∃ k : Nat, k ≤ l.length + 3 ∧ t6 = .bool true ∧ t7 = .int .i64 k ∧ Hid (wr.ownsRow 0 3 1 (.slice (some ⟨g, 0, none⟩) (l.length + 3) c2) (l.length + 3) (ints (List.replicate k (-78) ++ full.drop k))) ∧ Hid (Kept (fun k => k = g) w wr)) (fun _ t7 _ => l.length + 3 - (intOf t7).toNat)
  case atStart => exact ⟨0, by omega, rfl, rfl, O0, Kept.refl _ _⟩
  case round =>
    obtain ⟨k, hk, rfl, rfl, HO, HK⟩ := hrel
    clear O0
    by_cases hlt : k < l.length + 3
    · have hx : full[k]? = some full[k] := List.getElem?_eq_getElem (by omega)
      have hcx : wr.cell? ⟨g, k, none⟩ = some (.int .i64 full[k]) := by
        obtain ⟨g', c', u, e, hu, hcu, _⟩ := own_get HO.out hlt
        injection e with e _ _
        injection e with e
        injection e with e
        subst e
        rw [ints_get, List.getElem?_append_right (by simp), List.length_replicate, Nat.sub_self, List.getElem?_drop, Nat.add_zero, hx] at hu
        rw [hcu, ← hu]; rfl
      have hfz : wr.frozen? ⟨g, k, none⟩ = false := HO.out.frozenAt k
      have HO2 : Hid (∀ q, ((wr.drewN q).setCell ⟨g, k, none⟩ (.int .i64 (-78))).ownsRow 0 3 1 (.slice (some ⟨g, 0, none⟩) (l.length + 3) c2) (l.length + 3) (ints (List.replicate (k + 1) (-78) ++ full.drop (k + 1)))) := fun q => by
        obtain ⟨o2, _⟩ := (own_kept HO.out ((Kept.refl No wr).drewN q) (fun _ _ hn => hn)).stored k (.int .i64 (-78))
        rw [ints_set, over_step full k (-78) (by omega)] at o2
        exact o2
      have HK2 : Hid (∀ q, Kept (fun i => i = g) w ((wr.drewN q).setCell ⟨g, k, none⟩ (.int .i64 (-78)))) := fun q => (HK.out.drewN q).setCell (p := ⟨g, k, none⟩) (.inl rfl) _
      by_cases hin : k < l.length
      · have hl : l[k]? = some l[k] := List.getElem?_eq_getElem hin
        have e1 : full[k] = l[k] := by
          have h1 : full[k]? = some l[k] := by rw [HU.out, List.getElem?_append_left hin, hl]
          rw [hx] at h1
          exact Option.some.inj h1
        obtain ⟨_, A', c', he, _, hrd⟩ := HR.out
        obtain ⟨b, o, rfl, hFb, hbl, hcell⟩ := hrd (by omega)
        injection he with he _ hc
        subst he hc
        have hcl := hcell k (.int .i64 l[k]) (by rw [ints_get, hl]; rfl)
        have hcw := (HK.out.cell (p := ⟨b, o + k, none⟩) hbl (fun e => HD.out g rfl (e ▸ hFb))).trans hcl
        rw [e1] at hcx
        clear hcl hcell hrd hl e1 hx
        generalize l[k] = x at *
        have d1 : decide (l.length ≤ k) = false := by simp; omega
        have d2 : (x != x) = false := by simp
        go_wp2_with fail
        go_quiet (fail)
        go_wp2_with fail
        exact ⟨⟨k + 1, by omega, rfl, by go_num, HO2.out nq, HK2.out nq⟩, by (simp [intOf]; try omega)⟩
      · have e1 : full[k] = -77 := by
          have h1 : full[k]? = some (-77) := by
            rw [HU.out, List.getElem?_append_right (by omega)]
            have : k - l.length = 0 ∨ k - l.length = 1 ∨ k - l.length = 2 := by omega
            rcases this with h | h | h <;> rw [h] <;> rfl
          rw [hx] at h1
          exact Option.some.inj h1
        rw [e1] at hcx
        clear e1 hx
        have d1 : decide (k < l.length) = false := by simpa using hin
        have d2 : l.length ≤ k := by omega
        go_wp2_with fail
        go_quiet (fail)
        go_wp2_with fail
        exact ⟨⟨k + 1, by omega, rfl, by go_num, HO2.out nq, HK2.out nq⟩, by (simp [intOf]; try omega)⟩
    · have HF : Hid (Kept (fun i => (Value.slice (some ⟨g, 0, none⟩) l.length c2).ownBlock = some i) w wr) := HK.out.mono (fun i _ e => by simp [Value.ownBlock, e])
      go_wp2_with fail
      go_ret
      exact ⟨rfl, HF.out⟩
set_option maxRecDepth 100000 in
theorem lent_law12 (F : Nat → Prop) (v : Value) (l : List Int) (w : World) (hb : l.length ≤ 2000000) (h : RowR w 1 F v l.length (ints l)) : Calls Try.prog 40 #[v] w (RetLent w l) := by
  obtain ⟨A, c, rfl⟩ := h.slice
  obtain ⟨v', w2, happ, ho, hg, hat, _⟩ := run_append_row (P := Try.prog) (ty := 22) Try.underlying22 info3 rfl (by decide) (lit0 w) (h.keptNo ((Kept.refl No w).alloc (.cells #[] 3))) (ints_one l) (by omega) (by omega) (by simp)
  have k2 : Kept No w w2 := ((Kept.refl No w).alloc (.cells #[] 3)).grown hg (fun k hk hlt => by simp [Value.ownBlock] at hk; omega)
  have ho2 : w2.ownsRow w.heap.size 3 1 v' l.length (ints l) := by simpa [ints] using ho
  obtain ⟨A2, c2, rfl⟩ := (own_reads ho2 (F := fun _ => True) (fun _ _ => trivial)).slice
  obtain ⟨v3, w3, happ2, ho3, hg3, _, hs3⟩ := run_append_row (P := Try.prog) (ty := 22) Try.underlying22 info3 rfl (by decide) (ho2.alloc (.cells #[.int .i64 (-77), .int .i64 (-77), .int .i64 (-77)] 3)) (RowR.new w2 1 3 #[.int .i64 (-77), .int .i64 (-77), .int .i64 (-77)] 3 rfl) (ints_one [-77, -77, -77]) (by omega) (by omega) (Nat.le_trans k2.size (by simp))
  obtain ⟨g, c3, rfl⟩ := hs3 (by omega)
  have k3 : Kept No w w3 := (k2.alloc _).grown hg3 (fun k hk hlt => by have := (ho2.lt k hk).1; omega)
  have ho4 : w3.ownsRow w.heap.size 3 1 (.slice (some ⟨g, 0, none⟩) (l.length + 3) c3) (l.length + 3) (ints (l ++ [-77, -77, -77])) := by rw [ints_append]; exact ho3
  have hc3 := own_cap ho4
  have HF := Lib.hid (show RetLent w l (.returned (.slice (some ⟨g, 0, none⟩) l.length c3)) w3 from ⟨_, rfl, ⟨g, c3, rfl, (ho4.lt g rfl).1, own_zero ho4⟩, k3⟩)
  clear ho hg hat ho2 k2 h ho3 hg3 hs3 k3 ho4
  go_enter Try.func40, Try.ntmps40
  go_wp2_with (first | (at_builtin; refine wpList_append_run rfl (.tmp 4) (.tmp 5) 22 rfl rfl rfl happ ?_; clear happ) | (at_builtin; refine wpList_append_run rfl (.tmp 7) (.tmp 8) 22 rfl rfl rfl happ2 ?_; clear happ2))
  go_ret
  exact HF.out

set_option maxRecDepth 100000 in
set_option maxHeartbeats 2000000 in
theorem held_law12 {F : Nat → Prop} {base : Nat} {t v : Value} {l : List Int} {w : World} (ht : LentO w base t l) (h : RowR w 1 F v l.length (ints l)) (hb : l.length ≤ 2000000) (hd : ∀ k, t.ownBlock = some k → ¬ F k) :
    Calls Try.prog 44 #[t, v] w (fun e w' => e = .returned (.bool true) ∧ Kept (fun k => t.ownBlock = some k) w w') := by
  obtain ⟨A, c, rfl⟩ := h.slice
  obtain ⟨g, c2, rfl, _, ho⟩ := ht
  have hc2 := own_cap ho
  obtain ⟨full, hfull⟩ : ∃ full, full = l ++ [-77, -77, -77] := ⟨_, rfl⟩
  rw [← hfull] at ho
  have hfl : full.length = l.length + 3 := by rw [hfull]; simp
  have HR := Lib.hid h
  have HD := Lib.hid hd
  have HU := Lib.hid hfull
  have O0 := Lib.hid ho
  clear h hd ho hfull
  go_enter Try.func44, Try.ntmps44
  go_wp2_with fail
  go_loopw [6, 7] (fun t6 t7 wr => ∃ k : Nat, k ≤ l.length + 3 ∧ t6 = .bool true ∧ t7 = .int .i64 k ∧ Hid (wr.ownsRow 0 3 1 (.slice (some ⟨g, 0, none⟩) (l.length + 3) c2) (l.length + 3) (ints (List.replicate k (-78) ++ full.drop k))) ∧ Hid (Kept (fun k => k = g) w wr)) (fun _ t7 _ => l.length + 3 - (intOf t7).toNat)
  case atStart => exact ⟨0, by omega, rfl, rfl, O0, Kept.refl _ _⟩
  case round =>
    obtain ⟨k, hk, rfl, rfl, HO, HK⟩ := hrel
    clear O0
    by_cases hlt : k < l.length + 3
    · have hx : full[k]? = some full[k] := List.getElem?_eq_getElem (by omega)
      have hcx : wr.cell? ⟨g, k, none⟩ = some (.int .i64 full[k]) := by
        obtain ⟨g', c', u, e, hu, hcu, _⟩ := own_get HO.out hlt
        injection e with e _ _
        injection e with e
        injection e with e
        subst e
        rw [ints_get, List.getElem?_append_right (by simp), List.length_replicate, Nat.sub_self, List.getElem?_drop, Nat.add_zero, hx] at hu
        rw [hcu, ← hu]; rfl
      have hfz : wr.frozen? ⟨g, k, none⟩ = false := HO.out.frozenAt k
      have HO2 : Hid (∀ q, ((wr.drewN q).setCell ⟨g, k, none⟩ (.int .i64 (-78))).ownsRow 0 3 1 (.slice (some ⟨g, 0, none⟩) (l.length + 3) c2) (l.length + 3) (ints (List.replicate (k + 1) (-78) ++ full.drop (k + 1)))) := fun q => by
        obtain ⟨o2, _⟩ := (own_kept HO.out ((Kept.refl No wr).drewN q) (fun _ _ hn => hn)).stored k (.int .i64 (-78))
        rw [ints_set, over_step full k (-78) (by omega)] at o2
        exact o2
      have HK2 : Hid (∀ q, Kept (fun i => i = g) w ((wr.drewN q).setCell ⟨g, k, none⟩ (.int .i64 (-78)))) := fun q => (HK.out.drewN q).setCell (p := ⟨g, k, none⟩) (.inl rfl) _
      by_cases hin : k < l.length
      · have hl : l[k]? = some l[k] := List.getElem?_eq_getElem hin
        have e1 : full[k] = l[k] := by
          have h1 : full[k]? = some l[k] := by rw [HU.out, List.getElem?_append_left hin, hl]
          rw [hx] at h1
          exact Option.some.inj h1
        obtain ⟨_, A', c', he, _, hrd⟩ := HR.out
        obtain ⟨b, o, rfl, hFb, hbl, hcell⟩ := hrd (by omega)
        injection he with he _ hc
        subst he hc
        have hcl := hcell k (.int .i64 l[k]) (by rw [ints_get, hl]; rfl)
        have hcw := (HK.out.cell (p := ⟨b, o + k, none⟩) hbl (fun e => HD.out g rfl (e ▸ hFb))).trans hcl
        rw [e1] at hcx
        clear hcl hcell hrd hl e1 hx
        generalize l[k] = x at *
        have d1 : decide (l.length ≤ k) = false := by simp; omega
        have d2 : (x != x) = false := by simp
        go_wp2_with fail
        go_quiet (fail)
        go_wp2_with fail
        exact ⟨⟨k + 1, by omega, rfl, by go_num, HO2.out nq, HK2.out nq⟩, by (simp [intOf]; try omega)⟩
      · have e1 : full[k] = -77 := by
          have h1 : full[k]? = some (-77) := by
            rw [HU.out, List.getElem?_append_right (by omega)]
            have : k - l.length = 0 ∨ k - l.length = 1 ∨ k - l.length = 2 := by omega
            rcases this with h | h | h <;> rw [h] <;> rfl
          rw [hx] at h1
          exact Option.some.inj h1
        rw [e1] at hcx
        clear e1 hx
        have d1 : decide (k < l.length) = false := by simpa using hin
        have d2 : l.length ≤ k := by omega
        go_wp2_with fail
        go_quiet (fail)
        go_wp2_with fail
        exact ⟨⟨k + 1, by omega, rfl, by go_num, HO2.out nq, HK2.out nq⟩, by (simp [intOf]; try omega)⟩
    · have HF : Hid (Kept (fun i => (Value.slice (some ⟨g, 0, none⟩) l.length c2).ownBlock = some i) w wr) := HK.out.mono (fun i _ e => by simp [Value.ownBlock, e])
      go_wp2_with fail
      go_ret
      exact ⟨rfl, HF.out⟩
end Go.Proofs.Ytooalgnppnmeaaa
