/- spoil. -/
import Derived.Test.YtooalgnppnmeaaaL11d
import Derived.Test.YtooalgnppnmeaaaRH5
namespace Go.Proofs.Ytooalgnppnmeaaa
open Go.RowKit

/-- The blocks of the first k rows. -/
def Ahead (avs : List Value) (k : Nat) : Nat → Prop := fun b => ∃ (j : Nat) (a : Value), j < k ∧ avs[j]? = some a ∧ a.ownBlock = some b

set_option maxRecDepth 100000 in
set_option maxHeartbeats 2000000 in
theorem spoil_any {F : Nat → Prop} {v : Value} {ns : List Nd} {w : World} (h : NodesO w F v ns) (hb : ns.length ≤ 2000000 ∧ ∀ n ∈ ns, n.args.length ≤ 2000000) (mark : Int) :
    Calls Try.prog 63 #[v, .int .i64 mark] w (fun e w' => e = .returned (.tuple #[]) ∧ Kept (fun k => F k ∧ v.ownBlock ≠ some k) w w') := by
  obtain ⟨A, c, rfl⟩ := h.reads.slice
  obtain ⟨avs, hl, hr, hF, hp, ha⟩ := h
  have HR := Lib.hid hr
  have HP := Lib.hid hp
  have HA := Lib.hid ha
  have HB := Lib.hid hb.2
  have hsz := hb.1
  have HF : Hid (∀ i W, Kept (Ahead avs i) w W → Kept (fun k => F k ∧ (Value.slice A ns.length c).ownBlock ≠ some k) w W) := fun i W hk => hk.mono (fun k hlt ⟨j, a, _, hj, hab⟩ => by
    have hjl := (List.getElem?_eq_some_iff.1 hj).1
    obtain ⟨o1, o2⟩ := ha j a ns[j] hj (List.getElem?_eq_getElem (by omega))
    exact ⟨o2 k hab, fun h => own_ne o1 hr (by decide) k hab h⟩)
  clear hr hp ha hb hF
  go_enter Try.func63, Try.ntmps63
  go_wp2_with fail
  go_loopw [4] (fun t4 wr => ∃ k : Nat, k ≤ ns.length ∧ t4 = .int .i64 k ∧ Hid (Kept (Ahead avs k) w wr)) (fun t4 _ => ns.length - (intOf t4).toNat)
  case atStart => exact ⟨0, Nat.zero_le _, rfl, Kept.refl _ _⟩
  case round =>
    obtain ⟨k, hk, rfl, HK⟩ := hrel
    by_cases hlt : k < ns.length
    · have hn2 : ns[k]? = some ns[k] := List.getElem?_eq_getElem hlt
      have ha2 : avs[k]? = some avs[k] := List.getElem?_eq_getElem (by omega)
      obtain ⟨gv, cv, e, hgv, hgl⟩ := HR.out.form (by omega)
      injection e with e _ ec
      subst e ec
      have hcell : w.cell? ⟨gv, k * 5 + 1, none⟩ = some avs[k] := by
        rw [HR.out.cellAt (k * 5 + 1) (by omega), flat_get avs ns k _ _ ha2 hn2 1 (by omega)]
        rfl
      obtain ⟨o1, o2⟩ := HA.out k _ _ ha2 hn2
      have hs := HB.out _ (List.mem_of_getElem? hn2)
      generalize ns[k] = n at *
      have H2 := Lib.hid ha2
      clear ha2
      generalize avs[k] = a at *
      have HCell : Hid (∀ i W, Kept (Ahead avs i) w W → W.cell? ⟨gv, k * 5 + 1, none⟩ = some a) := fun i W hk => (hk.cell (p := ⟨gv, k * 5 + 1, none⟩) hgl (fun ⟨j, b, _, hj, hb⟩ => by
        have hjl := (List.getElem?_eq_some_iff.1 hj).1
        exact own_ne (HA.out j b ns[j] hj (List.getElem?_eq_getElem (by omega))).1 HR.out (by decide) gv hb (by simp [Value.ownBlock]))).trans hcell
      obtain ⟨Aa, ca, rfl⟩ := (own_reads o1 (F := fun _ => True) (fun _ _ => trivial)).slice
      have O1 : Hid (wr.ownsRow 0 3 1 (.slice Aa n.args.length ca) n.args.length (ints n.args)) := own_kept o1 HK.out (fun b hb ⟨j, u, hjk, hj, hub⟩ => HP.out k j _ u b H2.out hj (by omega) hb hub)
      have K1 : Hid (Kept (Ahead avs (k + 1)) w wr) := HK.out.mono (fun b _ ⟨j, u, hjk, hj, hub⟩ => ⟨j, u, by omega, hj, hub⟩)
      clear hn2 o1 o2 hcell HK
      go_wp2_with fail
      go_loopw [5] (fun t5 wr => ∃ (m : Nat) (xs : List Int), m ≤ n.args.length ∧ t5 = .int .i64 m ∧ xs.length = n.args.length ∧ Hid (wr.ownsRow 0 3 1 (.slice Aa n.args.length ca) n.args.length (ints xs)) ∧ Hid (Kept (Ahead avs (k + 1)) w wr)) (fun t5 _ => n.args.length - (intOf t5).toNat)
      case atStart => exact ⟨0, _, Nat.zero_le _, rfl, rfl, O1, K1⟩
      case round =>
        clear O1 K1
        obtain ⟨m, xs, hm, rfl, hxl, O1, K1⟩ := hrel
        have hc := HCell.out _ _ K1.out
        have HXL := Lib.hid hxl
        clear hxl
        by_cases hlm : m < n.args.length
        · obtain ⟨ga, c2, u, e, _, hcu, hfu, _, _⟩ := own_get O1.out hlm
          injection e with e _ ec
          subst e ec
          obtain ⟨s1, s2⟩ := O1.out.stored m (.int .i64 mark)
          rw [ints_set] at s1
          have K2 : Hid (Kept (Ahead avs (k + 1)) w (wr.setCell ⟨ga, m, none⟩ (.int .i64 mark))) := K1.out.setCell (p := ⟨ga, m, none⟩) (.inl ⟨k, _, by omega, H2.out, rfl⟩) _
          have O2 := Lib.hid s1
          clear s1 s2
          go_wp2_with fail
          go_roundw
          case rel => exact ⟨m + 1, _, by omega, by go_num, by rw [List.length_set, HXL.out], O2, K2⟩
          case measure => (simp [intOf]; try omega)
        · have HZ := K1.out.size
          obtain ⟨v4, w4, happ, ho4, hg4, hat4, hs4⟩ := run_append_row (P := Try.prog) (ty := 22) Try.underlying22 info3 rfl (by decide) (O1.out.alloc (.cells #[.int .i64 mark, .int .i64 mark] 3)) (RowR.new wr 1 2 #[.int .i64 mark, .int .i64 mark] 3 rfl) (ints_one [mark, mark]) (by omega) (by omega) (Nat.zero_le _)
          obtain ⟨g4, c4, rfl⟩ := hs4 (by omega)
          have hc4 : w4.cell? ⟨g4, 0, none⟩ ≠ none := by
            obtain ⟨g', c', u, e, _, hcu, _⟩ := own_get ho4 (i := 0) (by omega)
            injection e with e _ _
            injection e with e
            injection e with e
            subst e
            rw [hcu]; simp
          obtain ⟨u4, hu4⟩ := Option.ne_none_iff_exists'.1 hc4
          have hf4 : w4.frozen? ⟨g4, 0, none⟩ = false := ho4.frozenAt 0
          have K4 : Hid (Kept (Ahead avs (k + 1)) w (w4.setCell ⟨g4, 0, none⟩ (.int .i64 mark))) := ((K1.out.alloc _).grown hg4 (fun b hb _ => ⟨k, _, by omega, H2.out, hb⟩)).setCell (p := ⟨g4, 0, none⟩) (by
            rcases hat4 with e | e
            · exact .inl ⟨k, _, by omega, H2.out, e.symm⟩
            · right
              have : g4 = wr.heap.size + 1 := by simpa [Value.ownBlock] using e
              dsimp only
              omega) _
          clear hc4 ho4 hg4 hat4 hs4 O1 K1
          go_wp2_with (at_builtin; refine wpList_append_run rfl (.tmp 35) (.tmp 38) 22 rfl rfl rfl happ ?_; clear happ)
          go_roundw
          case rel => exact ⟨k + 1, by omega, by go_num, K4⟩
          case measure => (simp [intOf]; try omega)
    · have hfin := Lib.hid (HF.out _ _ HK.out)
      go_wp2_with fail
      go_end0
      exact ⟨rfl, hfin.out⟩
end Go.Proofs.Ytooalgnppnmeaaa
