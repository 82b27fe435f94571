/- The document's Alike: of two that go together it says yes. -/
import Derived.Test.YtooalgnppnmeaaaAlikeP
import Derived.Test.YtooalgnppnmeaaaL11a
import Derived.Test.YtooalgnppnmeaaaRead
import Derived.BigQuiet
namespace Go.Proofs.Ytooalgnppnmeaaa
open Go.RowKit

theorem infoP : (Try.prog.info? 107).map (fun i => (i.zero, i.size, i.bytes)) = some (some (.agg #[.int .i64 0, .int .i64 0]), 2, 16) := by kernel_rfl
theorem infoB : (Try.prog.info? 83).map (fun i => (i.zero, i.size, i.bytes)) = some (some (.slice none 0 0), 1, 24) := by kernel_rfl

theorem is_in {ns : List Nd} {a b : Int} (h : Is ns a b) : inR ns b = true := by
  obtain ⟨n, h1, _⟩ := h.end_
  exact (ndAt_inR h1).1
/-- An append of one pair. -/
theorem pair_push {w : World} {base : Nat} {v : Value} {ps : List (Int × Int)} (h : w.ownsRow base 107 2 v ps.length (pairs ps)) (hb : base ≤ w.heap.size) (x y : Int) (hlen : ps.length ≤ 20000000) :
    ∃ g c w4, (Builtin.append_ #[106, 106] 106 #[v, .slice (some ⟨w.heap.size, 0, none⟩) 1 1]).run Try.prog (w.alloc (.cells #[.int .i64 x, .int .i64 y] 107)) = .ok (.slice (some ⟨g, 0, none⟩) (ps.length + 1) c) w4 ∧
      w4.ownsRow base 107 2 (.slice (some ⟨g, 0, none⟩) (ps.length + 1) c) (ps ++ [(x, y)]).length (pairs (ps ++ [(x, y)])) ∧ Kept (fun k => v.ownBlock = some k) w w4 := by
  obtain ⟨v', w4, hrun, ho, hg, hat, hs⟩ := run_append_row (P := Try.prog) (ty := 106) Try.underlying106 infoP rfl (by decide) (h.alloc (.cells #[.int .i64 x, .int .i64 y] 107)) (RowR.new w 2 1 #[.int .i64 x, .int .i64 y] 107 rfl) (pairs_one [(x, y)]) (by omega) (by omega) (by simp; omega)
  obtain ⟨g, c, rfl⟩ := hs (by omega)
  refine ⟨g, c, w4, hrun, ?_, ((Kept.refl _ w).alloc _).grown hg (fun k hk _ => hk)⟩
  rw [pairs_append]
  simpa [pairs] using ho

/-- The memory of the walk. -/
structure AlkM (w0 w : World) (sv tv : Value) (ps : List (Int × Int)) (rows : List Value) (D : List (List Bool)) (m : Nat) : Prop where
  seen : w.ownsRow w0.heap.size 107 2 sv ps.length (pairs ps)
  tab : TabO w w0.heap.size tv rows D m
  kept : Kept No w0 w
/-- What holds of it. -/
structure AlkP (l m : List Nd) (R : Int → Int → Prop) (ps : List (Int × Int)) (D : List (List Bool)) : Prop where
  len : D.length = l.length
  cnt : ps.length = trues D
  rel : ∀ p ∈ ps, R p.1 p.2

/-- One more pair: it is marked, and told. -/
theorem AlkM.push {W0 W : World} {sv tv : Value} {ps : List (Int × Int)} {rows : List Value} {D : List (List Bool)} {m : Nat} (h : AlkM W0 W sv tv ps rows D m) {ci g c y : Nat} {r : List Bool} (hv : rows[ci]? = some (.slice (some ⟨g, 0, none⟩) m c)) (hr : D[ci]? = some r) (hy : r[y]? = some false) (x' y' : Int) (hlen : ps.length ≤ 16000000) :
    ∃ g2 c2 w4, (Builtin.append_ #[106, 106] 106 #[sv, .slice (some ⟨W.heap.size, 0, none⟩) 1 1]).run Try.prog ((W.setCell ⟨g, y, none⟩ (.bool true)).alloc (.cells #[.int .i64 x', .int .i64 y'] 107)) = .ok (.slice (some ⟨g2, 0, none⟩) (ps.length + 1) c2) w4 ∧
      AlkM W0 w4 (.slice (some ⟨g2, 0, none⟩) (ps.length + 1) c2) tv (ps ++ [(x', y')]) rows (D.set ci (r.set y true)) m ∧ W.cell? ⟨g, y, none⟩ = some (.bool false) ∧ W.frozen? ⟨g, y, none⟩ = false ∧
      (∀ (b : Nat) (cs : Array Value), W.heap[b]? = some (.cells cs 32 (0, 0)) → w4.heap[b]? = some (.cells cs 32 (0, 0))) := by
  have hrl := h.tab.all r (List.mem_of_getElem? hr)
  have hyl := (List.getElem?_eq_some_iff.1 hy).1
  rcases h.tab.ent ci _ r hv hr with ⟨h0, _⟩ | ⟨_, ho⟩
  · cases h0
  obtain ⟨t1, gr⟩ := h.tab.put (y := y) hv hr ho
  have hk := Kept.of_grown gr (F := fun b => b = g) (fun k hk _ => by injection hk with hk; exact hk.symm)
  have hgb := (ho.lt g (by simp [Value.ownBlock])).1
  have s1 := own_kept h.seen hk (fun b hb e => own_ne h.seen ho (by decide) b hb (by rw [e]; simp [Value.ownBlock]))
  have k1 : Kept No W0 (W.setCell ⟨g, y, none⟩ (.bool true)) := h.kept.trans hk (fun b hlt e => by omega)
  obtain ⟨g2, c2, w4, hrun, ho4, k4⟩ := pair_push s1 k1.size x' y' (by omega)
  have hz : (W.setCell ⟨g, y, none⟩ (.bool true)).heap.size = W.heap.size := by simp
  rw [hz] at hrun
  refine ⟨g2, c2, w4, hrun, ⟨ho4, t1.kept k4 (fun b hb e => own_ne t1.own s1 (by decide) b hb e) (fun v hv2 b hb e => rows_off t1 s1 (by decide) v hv2 b hb e), k1.trans k4 (fun b hlt e => by have := (s1.lt b e).1; omega)⟩, ?_, ho.frozenAt y, fun b cs hb => ?_⟩
  · rw [ho.cellAt y (by omega), bools_get, hy]; rfl
  · have h1 := hk.blk hb (fun e => own_off ho (e ▸ hb) (by decide) rfl)
    exact k4.blk h1 (fun e => own_ne_blk s1 h1 (by decide) e)
/-- A row is laid. -/
theorem AlkM.lay {W0 W w1 : World} {sv : Value} {tg tc : Nat} {ps : List (Int × Int)} {rows : List Value} {D : List (List Bool)} {m : Nat} (h : AlkM W0 W sv (.slice (some ⟨tg, 0, none⟩) rows.length tc) ps rows D m) {ci g c : Nat} (hv : rows[ci]? = some (.slice none 0 0)) (hk : Kept No W w1) (ho : w1.ownsRow W.heap.size 4 1 (.slice (some ⟨g, 0, none⟩) m c) m (bools (List.replicate m false))) :
    AlkM W0 (w1.setCell ⟨tg, ci, none⟩ (.slice (some ⟨g, 0, none⟩) m c)) sv (.slice (some ⟨tg, 0, none⟩) rows.length tc) ps (rows.set ci (.slice (some ⟨g, 0, none⟩) m c)) D m ∧ w1.cell? ⟨tg, ci, none⟩ = some (.slice none 0 0) ∧ w1.frozen? ⟨tg, ci, none⟩ = false ∧
      (w1.setCell ⟨tg, ci, none⟩ (.slice (some ⟨g, 0, none⟩) m c)).cell? ⟨tg, ci, none⟩ = some (.slice (some ⟨g, 0, none⟩) m c) ∧
      (∀ (b : Nat) (cs : Array Value), W.heap[b]? = some (.cells cs 32 (0, 0)) → (w1.setCell ⟨tg, ci, none⟩ (.slice (some ⟨g, 0, none⟩) m c)).heap[b]? = some (.cells cs 32 (0, 0))) := by
  have hil := (List.getElem?_eq_some_iff.1 hv).1
  have hg := (ho.lt g (by simp [Value.ownBlock])).1
  have hW := h.kept.size
  obtain ⟨t1, gr, f1, q1⟩ := h.tab.lay hv hk hg (own_base ho (fun b hb => by have := (ho.lt b hb).1; omega))
  have hkk := Kept.of_grown gr (F := fun b => b = tg) (fun k hk _ => by injection hk with hk; exact hk.symm)
  have htg := (h.tab.own.lt tg (by simp [Value.ownBlock])).1
  have o1 := own_kept h.tab.own hk (fun _ _ hn => hn)
  refine ⟨⟨own_kept (own_kept h.seen hk (fun _ _ hn => hn)) hkk (fun b hb e => own_ne h.seen h.tab.own (by decide) b hb (by rw [e]; simp [Value.ownBlock])), t1, (h.kept.thenNo hk).trans hkk (fun b hlt e => by omega)⟩, q1, f1, ?_, fun b cs hb => ?_⟩
  · have := t1.own
    rw [List.length_set] at this
    rw [this.cellAt ci (by omega)]
    simp [hil]
  · have h1 := hk.blk hb (fun hn => hn)
    exact hkk.blk h1 (fun e => own_off o1 (e ▸ h1) (by decide) rfl)

set_option maxRecDepth 100000 in
set_option maxHeartbeats 4000000 in
theorem alike_any {v0 v2 : Value} {l m : List Nd} {w : World} (hl : NodesR w (fun _ => True) v0 l) (hm : NodesR w (fun _ => True) v2 m) (hl4 : l.length ≤ 4000) (hm4 : m.length ≤ 4000) (hA : Acyc l) (hB : Acyc m) {R : Int → Int → Prop} (hR : Bisim l m R) (a b a' b' : Int) (ha : Is l a a') (hb : Is m b b') (hab : R a' b') :
    Calls Try.prog 49 #[v0, .int .i64 a, v2, .int .i64 b] w (RetYes w) := by
  obtain ⟨A0, c0, rfl⟩ := hl.slice
  obtain ⟨A2, c2, rfl⟩ := hm.slice
  have hia : inR l a = true := by
    cases ha with
    | app h1 _ => exact (ndAt_inR h1).1
    | ptr h1 _ _ => exact (ndAt_inR h1).1
  have hib : inR m b = true := by
    cases hb with
    | app h1 _ => exact (ndAt_inR h1).1
    | ptr h1 _ _ => exact (ndAt_inR h1).1
  have HIA := Lib.hid hia
  have HIB := Lib.hid hib
  have HAc := Lib.hid hA
  have HBc := Lib.hid hB
  have HR := Lib.hid hR
  have HAi := Lib.hid ha
  have HBi := Lib.hid hb
  have HAB := Lib.hid hab
  obtain ⟨W0, hW0⟩ : ∃ W0, (w.alloc (.cells #[.int .i64 0, .slice A0 l.length c0] 75)).alloc (.cells #[.int .i64 0, .slice A2 m.length c2] 75) = W0 := ⟨_, rfl⟩
  have k0 : Kept No w W0 := hW0 ▸ ((Kept.refl No w).alloc _).alloc _
  have z0 : W0.heap.size = w.heap.size + 2 := by rw [← hW0]; simp
  have gx : W0.heap[w.heap.size]? = some (.cells #[.int .i64 0, .slice A0 l.length c0] 75 (0, 0)) := hW0 ▸ blk_alloc (heap_alloc_new w _) _
  have gy : W0.heap[w.heap.size + 1]? = some (.cells #[.int .i64 0, .slice A2 m.length c2] 75 (0, 0)) := by
    rw [← hW0]
    simpa using heap_alloc_new (w.alloc (.cells #[.int .i64 0, .slice A0 l.length c0] 75)) (.cells #[.int .i64 0, .slice A2 m.length c2] 75)
  have HL := Lib.hid (hl.keptNo k0)
  have HM := Lib.hid (hm.keptNo k0)
  have HX : Hid (RView W0 w.heap.size l) := ⟨_, by rw [cell_of_row _ _ _ _ _ _ gx]; rfl, by omega, hl.keptNo k0⟩
  have HY : Hid (RView W0 (w.heap.size + 1) m) := ⟨_, by rw [cell_of_row _ _ _ _ _ _ gy]; rfl, by omega, hm.keptNo k0⟩
  have K0 := Lib.hid k0
  have ha' := inR_iff.1 (is_in ha)
  have hb' := inR_iff.1 (is_in hb)
  have hal : a'.toNat < l.length := by omega
  have hbl : b'.toNat < m.length := by omega
  clear hl hm hA hB hR ha hb hab hia hib k0 z0 gx gy
  generalize hN : w.heap.size = N at *
  go_enter Try.func49, Try.ntmps49
  go_wp2_with fail
  refine (has_view HX.out a).mono ?_
  rintro e wz ⟨rfl, rfl⟩
  rw [HIA.out]
  go_wp2_with fail
  refine (has_view HY.out b).mono ?_
  rintro e wz ⟨rfl, rfl⟩
  rw [HIB.out]
  go_wp2_with fail
  refine (resolve_view HX.out HAc.out a a' HAi.out).mono ?_
  rintro e wz ⟨rfl, rfl⟩
  go_wp2_with fail
  refine (resolve_view HY.out HBc.out b b' HBi.out).mono ?_
  rintro e wz ⟨rfl, rfl⟩
  have hnil : W0.ownsRow W0.heap.size 107 2 (.slice none 0 0) ([] : List (Int × Int)).length (pairs []) := World.ownsRow_nil W0 W0.heap.size 107 2
  obtain ⟨g1, c1, w1, happ, ho1, k1⟩ := pair_push hnil (Nat.le_refl _) a' b' (Nat.zero_le _)
  clear hnil
  have K1 : Kept No W0 w1 := k1.mono (fun b _ hb => by simp [Value.ownBlock] at hb)
  obtain ⟨dv, w2, hmk1, ⟨A3, c3, rfl⟩, ho2, hg2⟩ := run_make_one (P := Try.prog) (z := .slice none 0 0) Try.underlying108 infoB rfl l.length (by omega) (by omega) w1
  have K2 : Kept No w1 w2 := Kept.of_grown hg2 (by simp)
  obtain ⟨rv, w3, hmk2, ⟨A4, c4, rfl⟩, ho3, hg3⟩ := run_make_one (P := Try.prog) (z := .bool false) Try.underlying83 info4 rfl m.length (by omega) (by omega) w2
  have K3 : Kept No w2 w3 := Kept.of_grown hg3 (by simp)
  have hz1 := K1.size
  have hz2 := K2.size
  have hz3 := K3.size
  obtain ⟨tg, tc, het, htg, _⟩ := ho2.form (by omega)
  injection het with e1 _ e3
  subst e1 e3
  obtain ⟨rg, rc, her, hrg, _⟩ := ho3.form (by omega)
  injection her with e1 _ e3
  subst e1 e3
  have hrl : (List.replicate l.length (Value.slice none 0 0)).length = l.length := by simp
  have T2 : TabO w2 W0.heap.size (.slice (some ⟨tg, 0, none⟩) (List.replicate l.length (Value.slice none 0 0)).length c3) (List.replicate l.length (.slice none 0 0)) (List.replicate l.length (List.replicate m.length false)) m.length := by
    refine ⟨by simp, ?_, ?_, ?_, ?_⟩
    · rw [hrl]
      exact own_base ho2 (fun b hb => by have := (ho2.lt b hb).1; omega)
    · intro r hr
      rw [List.eq_of_mem_replicate hr]; simp
    · intro i v r hv hr
      exact .inl ⟨List.eq_of_mem_replicate (List.mem_of_getElem? hv), List.eq_of_mem_replicate (List.mem_of_getElem? hr)⟩
    · intro i j a b k ha _ _ hk
      rw [List.eq_of_mem_replicate (List.mem_of_getElem? ha)] at hk
      simp [Value.ownBlock] at hk
  obtain ⟨T4, gr4, f4, q4⟩ := T2.lay (i := a'.toNat) (by rw [List.getElem?_replicate, if_pos hal]) K3 hrg (own_base (by simpa [bools] using ho3) (fun b hb => by have := (ho3.lt b hb).1; omega))
  rw [hrl] at T4
  have hD0 : (List.replicate l.length (List.replicate m.length false))[a'.toNat]? = some (List.replicate m.length false) := by rw [List.getElem?_replicate, if_pos hal]
  have hrow4 : ((List.replicate l.length (Value.slice none 0 0)).set a'.toNat (.slice (some ⟨rg, 0, none⟩) m.length c4))[a'.toNat]? = some (.slice (some ⟨rg, 0, none⟩) m.length c4) := by simp [hal]
  have hown4 := T4.ent a'.toNat _ _ hrow4 hD0
  rcases hown4 with ⟨h0, _⟩ | ⟨_, hown4⟩
  · cases h0
  obtain ⟨T5, gr5⟩ := T4.put (y := b'.toNat) hrow4 hD0 hown4
  have hs5 : Hid (AlkM W0 ((w3.setCell ⟨tg, a'.toNat, none⟩ (.slice (some ⟨rg, 0, none⟩) m.length c4)).setCell ⟨rg, b'.toNat, none⟩ (.bool true)) (.slice (some ⟨g1, 0, none⟩) 1 c1) (.slice (some ⟨tg, 0, none⟩) l.length c3) [(a', b')] ((List.replicate l.length (.slice none 0 0)).set a'.toNat (.slice (some ⟨rg, 0, none⟩) m.length c4)) ((List.replicate l.length (List.replicate m.length false)).set a'.toNat ((List.replicate m.length false).set b'.toNat true)) m.length) := by
    have kk : Kept (fun b => b = tg ∨ b = rg) w1 ((w3.setCell ⟨tg, a'.toNat, none⟩ (.slice (some ⟨rg, 0, none⟩) m.length c4)).setCell ⟨rg, b'.toNat, none⟩ (.bool true)) :=
      (((K2.thenNo K3).all).grown gr4 (fun b hb _ => by injection hb with hb; exact .inl hb.symm)).grown gr5 (fun b hb _ => by injection hb with hb; exact .inr hb.symm)
    refine ⟨own_kept ho1 kk (fun b hb e => ?_), T5, K1.trans kk (fun b hlt e => by rcases e with e | e <;> omega)⟩
    have := (ho1.lt b hb).2
    rcases e with e | e <;> omega
  have hp5 : Hid (AlkP l m R [(a', b')] ((List.replicate l.length (List.replicate m.length false)).set a'.toNat ((List.replicate m.length false).set b'.toNat true))) := by
    refine ⟨by simp, ?_, ?_⟩
    · have e1 := trues_set (r' := (List.replicate m.length false).set b'.toNat true) hD0
      have e2 : ((List.replicate m.length false).set b'.toNat true).count true = (List.replicate m.length false).count true + 1 := count_set_true (by rw [List.getElem?_replicate, if_pos hbl])
      have e3 : trues (List.replicate l.length (List.replicate m.length false)) = 0 := by
        unfold trues
        rw [List.map_replicate]
        simp [List.count_replicate]
      simp only [List.length_singleton]
      omega
    · intro p hp
      have : p = (a', b') := by simpa using hp
      subst this
      exact HAB.out
  have K03 := Lib.hid ((K1.thenNo K2).thenNo K3)
  have q5 : (w3.setCell ⟨tg, a'.toNat, none⟩ (.slice (some ⟨rg, 0, none⟩) m.length c4)).cell? ⟨tg, a'.toNat, none⟩ = some (.slice (some ⟨rg, 0, none⟩) m.length c4) := by
    have := T4.own
    rw [show ((List.replicate l.length (Value.slice none 0 0)).set a'.toNat (.slice (some ⟨rg, 0, none⟩) m.length c4)).length = l.length by simp] at this
    rw [this.cellAt a'.toNat (by omega)]
    exact hrow4
  have q6 : (w3.setCell ⟨tg, a'.toNat, none⟩ (.slice (some ⟨rg, 0, none⟩) m.length c4)).cell? ⟨rg, b'.toNat, none⟩ = some (.bool false) := by
    rw [hown4.cellAt b'.toNat (by omega), bools_get, List.getElem?_replicate, if_pos hbl]
    rfl
  have f6 : (w3.setCell ⟨tg, a'.toNat, none⟩ (.slice (some ⟨rg, 0, none⟩) m.length c4)).frozen? ⟨rg, b'.toNat, none⟩ = false := hown4.frozenAt _
  obtain ⟨ha0, ha1⟩ := ha'
  obtain ⟨hb0, hb1⟩ := hb'
  clear ho1 k1 K1 K2 K3 ho2 hg2 ho3 hg3 T2 T4 T5 gr4 gr5 hD0 hrow4 hown4 hrl hz1 hz2 hz3 htg hrg
  go_wp2_with (at_builtin; refine wpList_append_run rfl (.tmp 49) (.tmp 53) 106 rfl rfl rfl happ ?_; clear happ)
  generalize (w3.setCell ⟨tg, a'.toNat, none⟩ (.slice (some ⟨rg, 0, none⟩) m.length c4)).setCell ⟨rg, b'.toNat, none⟩ (.bool true) = W5 at *
  generalize (List.replicate l.length (Value.slice none 0 0)).set a'.toNat (.slice (some ⟨rg, 0, none⟩) m.length c4) = rows5 at *
  generalize (List.replicate l.length (List.replicate m.length false)).set a'.toNat ((List.replicate m.length false).set b'.toNat true) = D5 at *
  clear q4 q5 q6 f4 f6 hmk1 hmk2 K03 HAB
  have hbig : Hid (∀ (ps : List (Int × Int)) (rows : List Value) (D : List (List Bool)) (W : World) (sv tv : Value), AlkM W0 W sv tv ps rows D m.length → AlkP l m R ps D → ps.length ≤ l.length * m.length ∧ ps.length ≤ 16000000) := by
    intro ps rows D W sv tv hM hP
    have h1 := trues_le hM.tab.all
    rw [hP.len] at h1
    rw [hP.cnt]
    refine ⟨h1, Nat.le_trans h1 ?_⟩
    exact Nat.le_trans (Nat.mul_le_mul hl4 hm4) (by decide)
  go_loopw [11, 13] (fun t11 t13 wr => ∃ (i : Nat) (ps : List (Int × Int)) (rows : List Value) (D : List (List Bool)), i ≤ ps.length ∧ t13 = .int .i64 i ∧ Hid (AlkM W0 wr t11 (.slice (some ⟨tg, 0, none⟩) l.length c3) ps rows D m.length) ∧ Hid (AlkP l m R ps D)) (fun _ t13 _ => l.length * m.length - (intOf t13).toNat)
  case atStart => exact ⟨0, _, _, _, Nat.zero_le _, rfl, hs5, hp5⟩
  case round =>
    clear hs5 hp5
    obtain ⟨i, ps, rows, D, hi, rfl, HM5, HP5⟩ := hrel
    obtain ⟨As, cs, rfl⟩ := (own_reads HM5.out.seen (F := fun _ => True) (fun _ _ => trivial)).slice
    obtain ⟨hb1', hb2'⟩ := hbig.out ps rows D wr _ _ HM5.out HP5.out
    by_cases hlt : i < ps.length
    · have hx : ps[i]? = some ps[i] := List.getElem?_eq_getElem hlt
      obtain ⟨gs, cs', he, hgs, _⟩ := HM5.out.seen.form (by omega)
      injection he with e1 _ e3
      subst e1 e3
      obtain ⟨pg1, pg2⟩ := pairs_get hx
      have r0 : wr.cell? ⟨gs, i * 2, none⟩ = some (.int .i64 ps[i].1) := by rw [HM5.out.seen.cellAt (i * 2) (by omega)]; exact pg1
      have r1 : wr.cell? ⟨gs, i * 2 + 1, none⟩ = some (.int .i64 ps[i].2) := by rw [HM5.out.seen.cellAt (i * 2 + 1) (by omega)]; exact pg2
      have hrel := HP5.out.rel _ (List.mem_of_getElem? hx)
      obtain ⟨n, k, hn, hk, hsym, hal5, h6⟩ := HR.out.app _ _ hrel
      have hdown := Lib.hid (HR.out.down _ _ hrel n k hn hk)
      generalize ps[i].1 = x at *
      generalize ps[i].2 = y at *
      obtain ⟨hn1, hn2⟩ := ndAt_inR hn
      obtain ⟨hk1, hk2⟩ := ndAt_inR hk
      obtain ⟨hx0, hx1⟩ := inR_iff.1 hn1
      obtain ⟨hy0, hy1⟩ := inR_iff.1 hk1
      have hxl : x.toNat < l.length := by omega
      have hyl : y.toNat < m.length := by omega
      obtain ⟨b0, o0, e0, av0, he0, _, hb0, x0, x1, x2, x3, x4, hrow0⟩ := (HL.out.keptNo HM5.out.kept).at_ hn2
      injection he0 with he0 _ hc
      subst he0 hc
      obtain ⟨B0, d0, rfl⟩ := hrow0.slice
      have ka : Kept No wr (wr.alloc (.cells #[.int .i64 n.sym, .slice B0 n.args.length d0, .int .i64 n.mark, .bool n.pts, .int .i64 n.to] 32)) := (Kept.refl No wr).alloc _
      obtain ⟨b2, o2, e2, av2, he2, _, hb2, y0, y1, y2, y3, y4, hrow2⟩ := ((HM.out.keptNo HM5.out.kept).keptNo ka).at_ hk2
      injection he2 with he2 _ hc
      subst he2 hc
      obtain ⟨B2, d2, rfl⟩ := hrow2.slice
      have r1' := (ka.cell (p := ⟨gs, i * 2 + 1, none⟩) (World.block_lt_of_cell? wr _ r1) (fun h => h)).trans r1
      have hR0 := Lib.hid hrow0
      have hR2 := Lib.hid hrow2
      have a1 : (n.sym != k.sym) = false := by rw [hsym]; simp
      have a2 : ((n.args.length : Int) != (k.args.length : Int)) = false := by rw [hal5]; simp
      have HAl := Lib.hid hal5
      clear hsym hal5
      have kb : Kept No wr ((wr.alloc (.cells #[.int .i64 n.sym, .slice B0 n.args.length d0, .int .i64 n.mark, .bool n.pts, .int .i64 n.to] 32)).alloc (.cells #[.int .i64 k.sym, .slice B2 k.args.length d2, .int .i64 k.mark, .bool k.pts, .int .i64 k.to] 32)) := ka.alloc _
      have g14 : ((wr.alloc (.cells #[.int .i64 n.sym, .slice B0 n.args.length d0, .int .i64 n.mark, .bool n.pts, .int .i64 n.to] 32)).alloc (.cells #[.int .i64 k.sym, .slice B2 k.args.length d2, .int .i64 k.mark, .bool k.pts, .int .i64 k.to] 32)).heap[wr.heap.size]? = some (.cells #[.int .i64 n.sym, .slice B0 n.args.length d0, .int .i64 n.mark, .bool n.pts, .int .i64 n.to] 32 (0, 0)) := blk_alloc (heap_alloc_new wr _) _
      have g15 : ((wr.alloc (.cells #[.int .i64 n.sym, .slice B0 n.args.length d0, .int .i64 n.mark, .bool n.pts, .int .i64 n.to] 32)).alloc (.cells #[.int .i64 k.sym, .slice B2 k.args.length d2, .int .i64 k.mark, .bool k.pts, .int .i64 k.to] 32)).heap[wr.heap.size + 1]? = some (.cells #[.int .i64 k.sym, .slice B2 k.args.length d2, .int .i64 k.mark, .bool k.pts, .int .i64 k.to] 32 (0, 0)) := by
        simpa using heap_alloc_new (wr.alloc (.cells #[.int .i64 n.sym, .slice B0 n.args.length d0, .int .i64 n.mark, .bool n.pts, .int .i64 n.to] 32)) (.cells #[.int .i64 k.sym, .slice B2 k.args.length d2, .int .i64 k.mark, .bool k.pts, .int .i64 k.to] 32)
      have HM7 : Hid (AlkM W0 ((wr.alloc (.cells #[.int .i64 n.sym, .slice B0 n.args.length d0, .int .i64 n.mark, .bool n.pts, .int .i64 n.to] 32)).alloc (.cells #[.int .i64 k.sym, .slice B2 k.args.length d2, .int .i64 k.mark, .bool k.pts, .int .i64 k.to] 32)) (.slice (some ⟨gs, 0, none⟩) ps.length cs) (.slice (some ⟨tg, 0, none⟩) l.length c3) ps rows D m.length) :=
        ⟨own_kept HM5.out.seen kb (fun _ _ hn => hn), HM5.out.tab.kept kb (fun _ _ hn => hn) (fun _ _ _ _ hn => hn), HM5.out.kept.thenNo kb⟩
      obtain ⟨W9, hW9⟩ : ∃ W9, W9 = wr := ⟨_, rfl⟩
      subst hW9
      have RA : Hid (RowR W0 1 (fun _ => True) (.slice B0 n.args.length d0) n.args.length (ints n.args)) := by
        obtain ⟨b0', o0', e0', av0', he0', _, hb0', _, x1', _, _, _, hrow0'⟩ := HL.out.at_ hn2
        injection he0' with he0' _ _
        injection he0' with he0'
        injection he0' with h1 h2
        subst h1 h2
        have := (HM5.out.kept.cell (p := ⟨b0, o0 + x.toNat * 5 + 1, none⟩) hb0' (fun h => h)).trans x1'
        rw [x1] at this
        have e : Value.slice B0 n.args.length d0 = av0' := by injection this
        rw [e]
        exact hrow0'
      have RB : Hid (RowR W0 1 (fun _ => True) (.slice B2 k.args.length d2) k.args.length (ints k.args)) := by
        obtain ⟨b0', o0', e0', av0', he0', _, hb0', _, x1', _, _, _, hrow0'⟩ := HM.out.at_ hk2
        injection he0' with he0' _ _
        injection he0' with he0'
        injection he0' with h1 h2
        subst h1 h2
        have := ((HM5.out.kept.thenNo ka).cell (p := ⟨b2, o2 + y.toNat * 5 + 1, none⟩) hb0' (fun h => h)).trans x1'
        rw [y1] at this
        have e : Value.slice B2 k.args.length d2 = av0' := by injection this
        rw [e]
        exact hrow0'
      clear hrow0 hrow2 ka kb hn hk hn1 hn2 hk1 hk2 hx pg1 pg2 hrel hR0 hR2 hb0 hb2
      go_wp2_with fail
      generalize (W9.alloc (.cells #[.int .i64 n.sym, .slice B0 n.args.length d0, .int .i64 n.mark, .bool n.pts, .int .i64 n.to] 32)).alloc (.cells #[.int .i64 k.sym, .slice B2 k.args.length d2, .int .i64 k.mark, .bool k.pts, .int .i64 k.to] 32) = W7 at *
      have G14 := Lib.hid g14
      have G15 := Lib.hid g15
      clear g14 g15 r0 r1 r1' x0 x1 x2 x3 x4 y0 y1 y2 y3 y4 hb1' hb2'
      go_loopw [11, 16] (fun t11 t16 wr => ∃ (j : Nat) (ps : List (Int × Int)) (rows : List Value) (D : List (List Bool)), j ≤ n.args.length ∧ t16 = .int .i64 j ∧ i < ps.length ∧ Hid (AlkM W0 wr t11 (.slice (some ⟨tg, 0, none⟩) l.length c3) ps rows D m.length) ∧ Hid (AlkP l m R ps D) ∧
        Hid (wr.heap[W9.heap.size]? = some (.cells #[.int .i64 n.sym, .slice B0 n.args.length d0, .int .i64 n.mark, .bool n.pts, .int .i64 n.to] 32 (0, 0))) ∧ Hid (wr.heap[W9.heap.size + 1]? = some (.cells #[.int .i64 k.sym, .slice B2 k.args.length d2, .int .i64 k.mark, .bool k.pts, .int .i64 k.to] 32 (0, 0)))) (fun _ t16 _ => n.args.length - (intOf t16).toNat)
      case atStart => exact ⟨0, ps, rows, D, Nat.zero_le _, rfl, hlt, HM7, HP5, G14, G15⟩
      case round =>
        clear HM7 HP5 G14 G15 HM5
        obtain ⟨j, ps, rows, D, hj, rfl, hips, HM, HP, G14, G15⟩ := hrel
        obtain ⟨As, cs2, rfl⟩ := (own_reads HM.out.seen (F := fun _ => True) (fun _ _ => trivial)).slice
        obtain ⟨hb1', hb2'⟩ := hbig.out ps rows D wr _ _ HM.out HP.out
        obtain ⟨⟨u0, u1, u2, u3, u4⟩, _⟩ := cells5 G14.out
        obtain ⟨⟨v0', v1', v2', v3', v4'⟩, _⟩ := cells5 G15.out
        by_cases hlt2 : j < n.args.length
        · have hc : n.args[j]? = some n.args[j] := List.getElem?_eq_getElem hlt2
          have hlt3 : j < k.args.length := by rw [← HAl.out]; exact hlt2
          have hd : k.args[j]? = some k.args[j] := List.getElem?_eq_getElem hlt3
          obtain ⟨c', d', hcc', hdd', hR'⟩ := hdown.out j _ _ hc hd
          obtain ⟨_, A', cv', he, _, hrd⟩ := RA.out.keptNo HM.out.kept
          injection he with hA' _ hcv
          obtain ⟨bv, ov, hAv, _, _, hcell⟩ := hrd (by omega)
          have hcl := hcell j (.int .i64 n.args[j]) (by rw [ints_get, hc]; rfl)
          subst hA' hcv hAv
          obtain ⟨_, A', cv', he, _, hrd2⟩ := RB.out.keptNo HM.out.kept
          injection he with hA' _ hcv
          obtain ⟨bv2, ov2, hAv, _, _, hcell2⟩ := hrd2 (by omega)
          have hcl2 := hcell2 j (.int .i64 k.args[j]) (by rw [ints_get, hd]; rfl)
          subst hA' hcv hAv
          generalize n.args[j] = c at *
          generalize k.args[j] = d at *
          have hci := inR_iff.1 (is_in hcc')
          have hdi := inR_iff.1 (is_in hdd')
          have hres1 := Lib.hid (resolve_view (HX.out.keptNo HM.out.kept) HAc.out c c' hcc')
          have hres2 := Lib.hid (resolve_view (HY.out.keptNo HM.out.kept) HBc.out d d' hdd')
          obtain ⟨hci0, hci1⟩ := hci
          obtain ⟨hdi0, hdi1⟩ := hdi
          have hcl4 : c'.toNat < l.length := by omega
          have hdl4 : d'.toNat < m.length := by omega
          have hrl : rows.length = l.length := by rw [HM.out.tab.len, HP.out.len]
          have hrv : rows[c'.toNat]? = some (rows[c'.toNat]'(by omega)) := List.getElem?_eq_getElem (by omega)
          have hDv : D[c'.toNat]? = some (D[c'.toNat]'(by rw [HP.out.len]; omega)) := List.getElem?_eq_getElem (by rw [HP.out.len]; omega)
          have hown := HM.out.tab.own
          rw [hrl] at hown
          have qc : wr.cell? ⟨tg, c'.toNat, none⟩ = some (rows[c'.toNat]'(by omega)) := by rw [hown.cellAt c'.toNat (by omega)]; exact hrv
          have hent := HM.out.tab.ent c'.toNat _ _ hrv hDv
          have hDl := HM.out.tab.all _ (List.mem_of_getElem? hDv)
          generalize hrow : rows[c'.toNat]'(by omega) = rv at *
          generalize hDr : D[c'.toNat]'(by rw [HP.out.len]; omega) = r at *
          have hPush : Hid (∀ D2 : List (List Bool), D2.length = D.length → trues D2 = trues D + 1 → AlkP l m R (ps ++ [(c', d')]) D2) := fun D2 h1 h2 => by
            refine ⟨by rw [h1, HP.out.len], by rw [List.length_append, HP.out.cnt, h2]; rfl, fun p hp => ?_⟩
            rcases List.mem_append.1 hp with hp | hp
            · exact HP.out.rel p hp
            · have : p = (c', d') := by simpa using hp
              rw [this]; exact hR'
          have HDV := Lib.hid hDv
          have HRV := Lib.hid hrv
          have HRL := Lib.hid hrl
          clear hc hd hcell hcell2 hrd hrd2 hrow hDr hown hcc' hdd' hR' hdown hDv hrv hrl
          rcases hent with ⟨rfl, hrr⟩ | ⟨⟨g, cg, rfl⟩, ho⟩
          · -- the row isn't there yet
            obtain ⟨nv, w1, hmk, ⟨An, cn, rfl⟩, ho1, hg1⟩ := run_make_one (P := Try.prog) (z := .bool false) Try.underlying83 info4 rfl m.length (by omega) (by omega) wr
            have k1 : Kept No wr w1 := Kept.of_grown hg1 (by simp)
            obtain ⟨rg, rc', her, hrg, _⟩ := ho1.form (by omega)
            injection her with e1 _ e3
            subst e1 e3
            have hM' : AlkM W0 wr (.slice As ps.length cs2) (.slice (some ⟨tg, 0, none⟩) rows.length c3) ps rows D m.length := by rw [HRL.out]; exact HM.out
            obtain ⟨hM1, q1, f1, q2, hbx1⟩ := hM'.lay HRV.out k1 (by simpa [bools] using ho1)
            have hrs : (rows.set c'.toNat (.slice (some ⟨rg, 0, none⟩) m.length cn))[c'.toNat]? = some (.slice (some ⟨rg, 0, none⟩) m.length cn) := by
              have := (List.getElem?_eq_some_iff.1 HRV.out).1
              simp [this]
            have hrf : r[d'.toNat]? = some false := by rw [hrr, List.getElem?_replicate, if_pos hdl4]
            obtain ⟨g2, c2', w4, happ, hM2, q3, f3, hbx2⟩ := hM1.push hrs HDV.out hrf c' d' hb2'
            have hz1 : (w1.setCell ⟨tg, c'.toNat, none⟩ (.slice (some ⟨rg, 0, none⟩) m.length cn)).heap.size = w1.heap.size := by simp
            rw [hz1] at happ
            rw [HRL.out] at hM2
            have HM2 := Lib.hid hM2
            have HP2 := Lib.hid (hPush.out (D.set c'.toNat (r.set d'.toNat true)) (by simp) (by
              have e1 := trues_set (r' := r.set d'.toNat true) HDV.out
              have e2 := count_set_true hrf
              omega))
            have HG1 := Lib.hid (hbx2 _ _ (hbx1 _ _ G14.out))
            have HG2 := Lib.hid (hbx2 _ _ (hbx1 _ _ G15.out))
            have hl1 : (ps ++ [(c', d')]).length = ps.length + 1 := by simp
            clear hM' hM1 hM2 hbx1 hbx2 hrs hrf k1 ho1 hg1 hrg hrr hz1
            go_wp2_with fail
            refine hres1.out.mono ?_
            rintro e wz ⟨rfl, rfl⟩
            go_wp2_with fail
            refine hres2.out.mono ?_
            rintro e wz ⟨rfl, rfl⟩
            go_wp2_with fail
            apply_assumption
            go_wp2_with (at_builtin; refine wpList_append_run rfl (.tmp 158) (.tmp 162) 106 rfl rfl rfl happ ?_; clear happ)
            go_roundw
            case rel => exact ⟨j + 1, ps ++ [(c', d')], _, _, by omega, by go_num, by omega, HM2, HP2, HG1, HG2⟩
            case measure => (simp [intOf]; try omega)
          · have hrget : r[d'.toNat]? = some (r[d'.toNat]'(by omega)) := List.getElem?_eq_getElem (by omega)
            have qd : wr.cell? ⟨g, d'.toNat, none⟩ = some (.bool (r[d'.toNat]'(by omega))) := by rw [ho.cellAt d'.toNat (by omega), bools_get, hrget]; rfl
            cases hbit : r[d'.toNat]'(by omega) with
            | true =>
              rw [hbit] at qd
              clear hrget hbit ho
              go_wp2_with fail
              refine hres1.out.mono ?_
              rintro e wz ⟨rfl, rfl⟩
              go_wp2_with fail
              refine hres2.out.mono ?_
              rintro e wz ⟨rfl, rfl⟩
              go_wp2_with fail
              apply_assumption
              go_wp2_with fail
              go_roundw
              case rel => exact ⟨j + 1, ps, rows, D, by omega, by go_num, hips, HM, HP, G14, G15⟩
              case measure => (simp [intOf]; try omega)
            | false =>
              rw [hbit] at qd hrget
              obtain ⟨g2, c2', w4, happ, hM2, q3, f3, hbx2⟩ := HM.out.push HRV.out HDV.out hrget c' d' hb2'
              have HM2 := Lib.hid hM2
              have HP2 := Lib.hid (hPush.out (D.set c'.toNat (r.set d'.toNat true)) (by simp) (by
                have e1 := trues_set (r' := r.set d'.toNat true) HDV.out
                have e2 := count_set_true hrget
                omega))
              have HG1 := Lib.hid (hbx2 _ _ G14.out)
              have HG2 := Lib.hid (hbx2 _ _ G15.out)
              have hl1 : (ps ++ [(c', d')]).length = ps.length + 1 := by simp
              have qc2 : (wr.setCell ⟨g, d'.toNat, none⟩ (.bool true)).cell? ⟨tg, c'.toNat, none⟩ = some (.slice (some ⟨g, 0, none⟩) m.length cg) := by
                have hne : tg ≠ g := fun e => own_ne HM.out.tab.own ho (by decide) tg (by simp [Value.ownBlock]) (by rw [e]; simp [Value.ownBlock])
                rw [← qc]
                exact ((Kept.refl (fun b => b = g) wr).setCell (p := ⟨g, d'.toNat, none⟩) (.inl rfl) _).cell (p := ⟨tg, c'.toNat, none⟩) (World.block_lt_of_cell? wr _ qc) (fun e => hne e)
              clear hM2 hbx2 hrget hbit ho qd
              go_wp2_with fail
              refine hres1.out.mono ?_
              rintro e wz ⟨rfl, rfl⟩
              go_wp2_with fail
              refine hres2.out.mono ?_
              rintro e wz ⟨rfl, rfl⟩
              go_wp2_with fail
              apply_assumption
              go_wp2_with (at_builtin; refine wpList_append_run rfl (.tmp 158) (.tmp 162) 106 rfl rfl rfl happ ?_; clear happ)
              go_roundw
              case rel => exact ⟨j + 1, ps ++ [(c', d')], _, _, by omega, by go_num, by omega, HM2, HP2, HG1, HG2⟩
              case measure => (simp [intOf]; try omega)
        · have hje : j = n.args.length := by omega
          subst hje
          go_wp2_with fail
          go_roundw
          case rel => exact ⟨i + 1, ps, rows, D, by omega, by go_num, HM, HP⟩
          case measure => (simp [intOf]; try omega)
    · have hie : i = ps.length := by omega
      subst hie
      have fin := Lib.hid (K0.out.thenNo HM5.out.kept)
      go_wp2_with fail
      go_ret
      exact ⟨rfl, fin.out⟩
end Go.Proofs.Ytooalgnppnmeaaa
