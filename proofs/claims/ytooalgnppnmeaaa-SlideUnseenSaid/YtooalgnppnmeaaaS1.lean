/- SameInts, SameNode, SameNodes, told. -/
import Derived.Test.YtooalgnppnmeaaaH4
namespace Go.Proofs.Ytooalgnppnmeaaa
open Go.RowKit

theorem sameInts_any {F G : Nat → Prop} {v u : Value} {l m : List Int} {w : World} (hl : RowR w 1 F v l.length (ints l)) (hm : RowR w 1 G u m.length (ints m)) (hsz : l.length ≤ 9223372036854775807) (hsz2 : m.length ≤ 9223372036854775807) :
    Calls Try.prog 43 #[v, u] w (RetBool w (decide (l = m))) := by
  obtain ⟨A, c, rfl⟩ := hl.slice
  obtain ⟨B, d, rfl⟩ := hm.slice
  have HL := Lib.hid hl
  have HM := Lib.hid hm
  clear hl hm
  by_cases hlen : l.length = m.length
  · have hbl : ((l.length : Int) != (m.length : Int)) = false := by simp [hlen]
    have hle1 : l.length ≤ m.length := by omega
    have hle2 : m.length ≤ l.length := by omega
    have HE := Lib.hid hlen
    clear hlen
    go_enter Try.func43, Try.ntmps43
    go_wp2_with fail
    go_loopw [5] (fun i wr => ∃ k : Nat, k ≤ l.length ∧ i = .int .i64 k ∧ Hid (Kept No w wr) ∧ Hid (l.take k = m.take k)) (fun i _ => l.length - (intOf i).toNat)
    case atStart => exact ⟨0, Nat.zero_le _, rfl, Kept.refl _ _, (by simp : l.take 0 = m.take 0)⟩
    case round =>
      obtain ⟨k, hk, rfl, HK, HT⟩ := hrel
      by_cases hlt : k < l.length
      · obtain ⟨_, A', c', he, _, hrd⟩ := HL.out.keptNo HK.out
        obtain ⟨b, o, rfl, _, _, hcell⟩ := hrd (by omega)
        injection he with he _ hc
        subst he hc
        obtain ⟨_, B', d', he, _, hrd2⟩ := HM.out.keptNo HK.out
        obtain ⟨b2, o2, rfl, _, _, hcell2⟩ := hrd2 (by omega)
        injection he with he _ hc
        subst he hc
        have hx : l[k]? = some l[k] := List.getElem?_eq_getElem hlt
        have hy : m[k]? = some (m[k]'(by omega)) := List.getElem?_eq_getElem (by omega)
        have hcx := hcell k (.int .i64 l[k]) (by rw [ints_get, hx]; rfl)
        have hcy := hcell2 k (.int .i64 (m[k]'(by omega))) (by rw [ints_get, hy]; rfl)
        have HX := Lib.hid hx
        have HY := Lib.hid hy
        clear hcell hrd hcell2 hrd2 hx hy
        generalize l[k] = x at *
        generalize m[k]'(by omega) = y at *
        have i1 : (0 : Int) ≤ (k : Int) := by omega
        have i2 : (k : Int) < (l.length : Int) := by omega
        have i3 : (k : Int) < (m.length : Int) := by omega
        by_cases hxy : x = y
        · subst hxy
          have HT2 : Hid (l.take (k + 1) = m.take (k + 1)) := by
            show _ = _
            rw [List.take_add_one, List.take_add_one, HT.out, HX.out, HY.out]
          go_wp2_with fail
          go_quiet (fail)
          go_wp2_with fail
          go_roundw
          case rel => exact ⟨k + 1, by omega, by go_num, HK.out.drewN _, HT2⟩
          case measure => (simp [intOf]; try omega)
        · have hne : (x != y) = true := by simpa using hxy
          have hfin : decide (l = m) = false := by
            rw [decide_eq_false_iff_not]
            rintro rfl
            rw [HX.out] at HY
            injection HY.out with e
            exact hxy e
          have HF := Lib.hid hfin
          clear hfin
          go_wp2_with fail
          go_quiet (fail)
          go_wp2_with fail
          go_ret
          rw [HF.out]
          exact ⟨rfl, HK.out.drewN _⟩
      · have hke : k = l.length := by omega
        have hfin : decide (l = m) = true := by
          rw [decide_eq_true_iff]
          have := HT.out
          rwa [hke, List.take_length, HE.out, List.take_length] at this
        have HF := Lib.hid hfin
        clear hke hfin
        go_wp2_with fail
        go_ret
        rw [HF.out]
        exact ⟨rfl, HK.out⟩
  · have hbl : ((l.length : Int) != (m.length : Int)) = true := by simp; omega
    have hfin : decide (l = m) = false := by
      rw [decide_eq_false_iff_not]
      rintro rfl
      exact hlen rfl
    have HF := Lib.hid hfin
    clear hfin
    go_enter Try.func43, Try.ntmps43
    go_wp2_with fail
    go_ret
    rw [HF.out]
    exact ⟨rfl, Kept.refl No w⟩

theorem nd_eq {a b : Nd} : a = b ↔ a.sym = b.sym ∧ a.mark = b.mark ∧ a.pts = b.pts ∧ a.to = b.to ∧ a.args = b.args := by
  cases a; cases b; simp only [Nd.mk.injEq]; constructor
  · rintro ⟨h1, h2, h3, h4, h5⟩; exact ⟨h1, h3, h4, h5, h2⟩
  · rintro ⟨h1, h3, h4, h5, h2⟩; exact ⟨h1, h2, h3, h4, h5⟩

set_option maxRecDepth 100000 in
set_option maxHeartbeats 1000000 in
theorem sameNode_any {F G : Nat → Prop} {av bv : Value} {a b : Nd} {w : World} (ha : RowR w 1 F av a.args.length (ints a.args)) (hb : RowR w 1 G bv b.args.length (ints b.args)) (hsz : a.args.length ≤ 9223372036854775807) (hsz2 : b.args.length ≤ 9223372036854775807) :
    Calls Try.prog 31 #[ndVal av a, ndVal bv b] w (RetBool w (decide (a = b))) := by
  obtain ⟨A, c, rfl⟩ := ha.slice
  obtain ⟨B, d, rfl⟩ := hb.slice
  have HA := Lib.hid ha
  have HB := Lib.hid hb
  clear ha hb
  have no : ∀ w1, Kept No w w1 → decide (a = b) = false → RetBool w (decide (a = b)) (.returned (.bool false)) w1 := fun w1 hk h => ⟨by rw [h], hk⟩
  have NO := Lib.hid no
  clear no
  have K2 : ∀ o p, Kept No w ((w.alloc o).alloc p) := fun o p => ((Kept.refl No w).alloc o).alloc p
  have KK := Lib.hid K2
  clear K2
  unfold ndVal
  by_cases h1 : a.sym = b.sym
  · have e1 : (a.sym == b.sym) = true := by simpa using h1
    by_cases h2 : a.mark = b.mark
    · have e2 : (a.mark == b.mark) = true := by simpa using h2
      by_cases h3 : a.pts = b.pts
      · have e3 : (a.pts == b.pts) = true := by simpa using h3
        by_cases h4 : a.to = b.to
        · have e4 : (a.to == b.to) = true := by simpa using h4
          have hd : decide (a.args = b.args) = decide (a = b) := by
            rw [decide_eq_decide, nd_eq]
            simp [h1, h2, h3, h4]
          have HD := Lib.hid hd
          clear hd h1 h2 h3 h4
          go_enter Try.func31, Try.ntmps31
          go_wp2_with fail
          refine (sameInts_any (HA.out.keptNo (KK.out _ _)) (HB.out.keptNo (KK.out _ _)) hsz hsz2).mono ?_
          rintro e w1 ⟨rfl, k1⟩
          rw [HD.out]
          have K1 := Lib.hid ((KK.out _ _).thenNo k1)
          clear k1
          go_wp2_with fail
          go_ret
          exact ⟨rfl, K1.out⟩
        · have e4 : (a.to == b.to) = false := by simpa using h4
          have hf := Lib.hid (show decide (a = b) = false by rw [decide_eq_false_iff_not, nd_eq]; exact fun h => h4 h.2.2.2.1)
          clear h1 h2 h3 h4
          go_enter Try.func31, Try.ntmps31
          go_wp2_with fail
          go_ret
          exact NO.out _ (KK.out _ _) hf.out
      · have e3 : (a.pts == b.pts) = false := by simpa using h3
        have hf := Lib.hid (show decide (a = b) = false by rw [decide_eq_false_iff_not, nd_eq]; exact fun h => h3 h.2.2.1)
        clear h1 h2 h3
        go_enter Try.func31, Try.ntmps31
        go_wp2_with fail
        go_ret
        exact NO.out _ (KK.out _ _) hf.out
    · have e2 : (a.mark == b.mark) = false := by simpa using h2
      have hf := Lib.hid (show decide (a = b) = false by rw [decide_eq_false_iff_not, nd_eq]; exact fun h => h2 h.2.1)
      clear h1 h2
      go_enter Try.func31, Try.ntmps31
      go_wp2_with fail
      go_ret
      exact NO.out _ (KK.out _ _) hf.out
  · have e1 : (a.sym == b.sym) = false := by simpa using h1
    have hf := Lib.hid (show decide (a = b) = false by rw [decide_eq_false_iff_not, nd_eq]; exact fun h => h1 h.1)
    clear h1
    go_enter Try.func31, Try.ntmps31
    go_wp2_with fail
    go_ret
    exact NO.out _ (KK.out _ _) hf.out

/-- A call that makes a list of nodes, beside 'true', and changes nothing. -/
def RetTold (w : World) (ns : List Nd) (e : Ending) (w' : World) : Prop :=
  ∃ v, e = .returned (.tuple #[v, .bool true]) ∧ NodesO w' (News w w') v ns ∧ Kept No w w'
set_option maxRecDepth 100000 in
set_option maxHeartbeats 1000000 in
theorem told_law11 {F : Nat → Prop} {hb : Nat} {room : Int} {ns : List Nd} {w : World} (h : HeapO w F hb room ns) (hF : Bnd F w) (hs : Sane ns) (hlen : ns.length ≤ 4000) :
    Calls Try.prog 27 #[.pointer (some ⟨hb, 0, none⟩)] w (RetTold w ns) := by
  have H := Lib.hid h
  have HF := Lib.hid hF
  have HS := Lib.hid hs
  clear h hF hs
  go_enter Try.func27, Try.ntmps27
  go_wp2_with fail
  go_loopw [4, 5] (fun v i wr => ∃ k : Nat, k ≤ ns.length ∧ i = .int .i64 k ∧ Hid (NodesO wr (News w wr) v (ns.take k)) ∧ Hid (Kept No w wr)) (fun _ i _ => ns.length - (intOf i).toNat)
  case atStart => exact ⟨0, Nat.zero_le _, rfl, NodesO.nil _ _, Kept.refl _ _⟩
  case round =>
    obtain ⟨k, hk, rfl, HV, HK⟩ := hrel
    obtain ⟨Av, cv, rfl⟩ := HV.out.reads.slice
    by_cases hlt : k < ns.length
    · have hx : ns[k]? = some ns[k] := List.getElem?_eq_getElem hlt
      have hnd : ndAt ns k = some ns[k] := by simp [ndAt, hx]
      have h6 := HS.out.few ns[k] (List.getElem_mem hlt)
      have htk : ns.take (k + 1) = ns.take k ++ [ns[k]] := by rw [List.take_add_one, hx]; rfl
      have HT := Lib.hid htk
      have HN := Lib.hid hnd
      clear hx hnd htk
      generalize ns[k] = n at *
      have hk4 : k < 4000 := by omega
      go_wp2_with fail
      refine (used_any (H.out.keptNo HK.out)).mono ?_
      rintro e w1 ⟨rfl, rfl⟩
      go_wp2_with fail
      refine (at_yes (H.out.keptNo HK.out) k n HN.out (by omega)).mono ?_
      rintro e w2 ⟨a, rfl, ho, k2⟩
      dsimp only [ndVal]
      obtain ⟨A2, c2, rfl⟩ := (own_reads ho (F := fun _ => True) (fun _ _ => trivial)).slice
      have hz2 := k2.size
      have hv3 := (HV.out.keptNo k2).keptNo ((Kept.refl No w2).alloc (.cells #[.int .i64 n.sym, .slice A2 n.args.length c2, .int .i64 n.mark, .bool n.pts, .int .i64 n.to] 32))
      have hlk : (ns.take k).length = k := by simp; omega
      obtain ⟨v4, w4, happ, ho4, k4, g4, c4, rfl⟩ := nodes_push hv3 n (.slice A2 n.args.length c2) (own_zero (ho.alloc _)) (fun b hb hf => by have := (ho.lt b hb).1; have := hf.2; omega) (by omega)
      have hz4 := k4.size
      rw [World.size_alloc] at hz4
      have hzr := HK.out.size
      have V4 : Hid (NodesO w4 (News w w4) (.slice (some ⟨g4, 0, none⟩) (k + 1) c4) (ns.take (k + 1))) := by
        show NodesO _ _ _ _
        rw [HT.out]
        rw [hlk] at ho4
        refine ho4.mono ?_
        rintro b (hb | hb | hb) _
        · exact ⟨hb.1, by have := hb.2; omega⟩
        · have := ho.lt b hb
          exact ⟨by omega, by omega⟩
        · rw [World.size_alloc] at hb
          exact ⟨by omega, hb.2⟩
      have K4 : Hid (Kept No w w4) := ((HK.out.thenNo k2).alloc _).trans k4 (fun b hb e => by
        obtain ⟨avs, _, hr, hvb, _⟩ := HV.out
        have := (hvb b e).1
        omega)
      dsimp only [ndCells] at happ
      rw [hlk] at happ
      simp only [World.size_alloc] at happ
      clear ho4 k4 hv3 ho k2
      go_wp2_with (at_builtin; refine wpList_append_run rfl (.tmp 26) (.tmp 28) 39 rfl rfl rfl happ ?_; clear happ)
      go_roundw
      case rel => exact ⟨k + 1, by omega, by go_num, V4, K4⟩
      case measure => (simp [intOf]; try omega)
    · have hke : k = ns.length := by omega
      have HE := Lib.hid hke
      have hee : ((k : Int) == (ns.length : Int)) = true := by simp; omega
      have hkg : ns.length ≤ k := by omega
      clear hke
      go_wp2_with fail
      refine (used_any (H.out.keptNo HK.out)).mono ?_
      rintro e w1 ⟨rfl, rfl⟩
      go_wp2_with fail
      refine (used_any (H.out.keptNo HK.out)).mono ?_
      rintro e w1 ⟨rfl, rfl⟩
      go_wp2_with fail
      go_ret2
      have hv := HV.out
      rw [HE.out, List.take_length] at hv
      exact ⟨_, by simp [HE.out], hv, HK.out⟩
set_option maxRecDepth 100000 in
set_option maxHeartbeats 1000000 in
theorem told_law12 {F : Nat → Prop} {hb : Nat} {room : Int} {ns : List Nd} {w : World} (h : HeapO w F hb room ns) (hF : Bnd F w) (hs : Sane ns) (hlen : ns.length ≤ 4000) :
    Calls Try.prog 45 #[.pointer (some ⟨hb, 0, none⟩)] w (RetTold w ns) := by
  have H := Lib.hid h
  have HF := Lib.hid hF
  have HS := Lib.hid hs
  clear h hF hs
  go_enter Try.func45, Try.ntmps45
  go_wp2_with fail
  go_loopw [4, 5] (fun v i wr => ∃ k : Nat, k ≤ ns.length ∧ i = .int .i64 k ∧ Hid (NodesO wr (News w wr) v (ns.take k)) ∧ Hid (Kept No w wr)) (fun _ i _ => ns.length - (intOf i).toNat)
  case atStart => exact ⟨0, Nat.zero_le _, rfl, NodesO.nil _ _, Kept.refl _ _⟩
  case round =>
    obtain ⟨k, hk, rfl, HV, HK⟩ := hrel
    obtain ⟨Av, cv, rfl⟩ := HV.out.reads.slice
    by_cases hlt : k < ns.length
    · have hx : ns[k]? = some ns[k] := List.getElem?_eq_getElem hlt
      have hnd : ndAt ns k = some ns[k] := by simp [ndAt, hx]
      have h6 := HS.out.few ns[k] (List.getElem_mem hlt)
      have htk : ns.take (k + 1) = ns.take k ++ [ns[k]] := by rw [List.take_add_one, hx]; rfl
      have HT := Lib.hid htk
      have HN := Lib.hid hnd
      clear hx hnd htk
      generalize ns[k] = n at *
      have hk4 : k < 4000 := by omega
      go_wp2_with fail
      refine (used_any (H.out.keptNo HK.out)).mono ?_
      rintro e w1 ⟨rfl, rfl⟩
      go_wp2_with fail
      refine (at_yes (H.out.keptNo HK.out) k n HN.out (by omega)).mono ?_
      rintro e w2 ⟨a, rfl, ho, k2⟩
      dsimp only [ndVal]
      obtain ⟨A2, c2, rfl⟩ := (own_reads ho (F := fun _ => True) (fun _ _ => trivial)).slice
      have hz2 := k2.size
      have hv3 := (HV.out.keptNo k2).keptNo ((Kept.refl No w2).alloc (.cells #[.int .i64 n.sym, .slice A2 n.args.length c2, .int .i64 n.mark, .bool n.pts, .int .i64 n.to] 32))
      have hlk : (ns.take k).length = k := by simp; omega
      obtain ⟨v4, w4, happ, ho4, k4, g4, c4, rfl⟩ := nodes_push hv3 n (.slice A2 n.args.length c2) (own_zero (ho.alloc _)) (fun b hb hf => by have := (ho.lt b hb).1; have := hf.2; omega) (by omega)
      have hz4 := k4.size
      rw [World.size_alloc] at hz4
      have hzr := HK.out.size
      have V4 : Hid (NodesO w4 (News w w4) (.slice (some ⟨g4, 0, none⟩) (k + 1) c4) (ns.take (k + 1))) := by
        show NodesO _ _ _ _
        rw [HT.out]
        rw [hlk] at ho4
        refine ho4.mono ?_
        rintro b (hb | hb | hb) _
        · exact ⟨hb.1, by have := hb.2; omega⟩
        · have := ho.lt b hb
          exact ⟨by omega, by omega⟩
        · rw [World.size_alloc] at hb
          exact ⟨by omega, hb.2⟩
      have K4 : Hid (Kept No w w4) := ((HK.out.thenNo k2).alloc _).trans k4 (fun b hb e => by
        obtain ⟨avs, _, hr, hvb, _⟩ := HV.out
        have := (hvb b e).1
        omega)
      dsimp only [ndCells] at happ
      rw [hlk] at happ
      simp only [World.size_alloc] at happ
      clear ho4 k4 hv3 ho k2
      go_wp2_with (at_builtin; refine wpList_append_run rfl (.tmp 26) (.tmp 28) 39 rfl rfl rfl happ ?_; clear happ)
      go_roundw
      case rel => exact ⟨k + 1, by omega, by go_num, V4, K4⟩
      case measure => (simp [intOf]; try omega)
    · have hke : k = ns.length := by omega
      have HE := Lib.hid hke
      have hee : ((k : Int) == (ns.length : Int)) = true := by simp; omega
      have hkg : ns.length ≤ k := by omega
      clear hke
      go_wp2_with fail
      refine (used_any (H.out.keptNo HK.out)).mono ?_
      rintro e w1 ⟨rfl, rfl⟩
      go_wp2_with fail
      refine (used_any (H.out.keptNo HK.out)).mono ?_
      rintro e w1 ⟨rfl, rfl⟩
      go_wp2_with fail
      go_ret2
      have hv := HV.out
      rw [HE.out, List.take_length] at hv
      exact ⟨_, by simp [HE.out], hv, HK.out⟩
end Go.Proofs.Ytooalgnppnmeaaa
