/- The document's Nodes, May, Refill. -/
import Derived.Test.YtooalgnppnmeaaaRH2
import Derived.Test.YtooalgnppnmeaaaRing
namespace Go.Proofs.Ytooalgnppnmeaaa
open Go.RowKit

/-- A call that makes a list of nodes, and changes nothing. -/
def RetNodes (w : World) (ns : List Nd) (e : Ending) (w' : World) : Prop :=
  ∃ v, e = .returned v ∧ NodesO w' (News w w') v ns ∧ Kept No w w'
/-- No list is very long. -/
def Bulk (ns : List Nd) : Prop := ns.length ≤ 1048576 ∧ ∀ n ∈ ns, n.args.length ≤ 1048576

theorem nodes_push2 {w : World} {F : Nat → Prop} {v : Value} {ns : List Nd} (h : NodesO w F v ns) (n : Nd) (a : Value) (ha : w.ownsRow 0 3 1 a n.args.length (ints n.args)) (hd : ∀ k, a.ownBlock = some k → ¬ F k) (hlen : ns.length ≤ 2000000) :
    ∃ v' w4, (Builtin.append_ #[39, 39] 39 #[v, .slice (some ⟨w.heap.size, 0, none⟩) 1 1]).run Try.prog (w.alloc (.cells (ndCells a n).toArray 32)) = .ok v' w4 ∧
      NodesO w4 (fun k => F k ∨ a.ownBlock = some k ∨ (w.heap.size ≤ k ∧ k < w4.heap.size)) v' (ns ++ [n]) ∧ Kept (fun k => v.ownBlock = some k) w w4 ∧ (∃ g c, v' = .slice (some ⟨g, 0, none⟩) (ns.length + 1) c) := by
  obtain ⟨avs, hl, hr, hb, hp, hav⟩ := h
  have hn1 : RowR (w.alloc (.cells (ndCells a n).toArray 32)) 5 (fun k => k = w.heap.size) (.slice (some ⟨w.heap.size, 0, none⟩) 1 1) 1 (ndCells a n) := by
    have := RowR.new w 5 1 (ndCells a n).toArray 32 (by simp [ndCells])
    simpa using this
  obtain ⟨v', w4, hrun, ho, hg, hat, hs⟩ := run_append_row (P := Try.prog) (ty := 39) Try.underlying39 infoN rfl (by decide) (hr.alloc (.cells (ndCells a n).toArray 32)) hn1 (ndCells_one a n (own_one ha)) (by omega) (by omega) (Nat.zero_le _)
  have k4 : Kept (fun k => v.ownBlock = some k) w w4 := ((Kept.refl _ w).alloc _).grown hg (fun k hk _ => hk)
  have hz := k4.size
  have hz1 := hg.size
  rw [World.size_alloc] at hz1
  refine ⟨v', w4, hrun, ⟨avs ++ [a], by simp [hl], ?_, ?_, ?_, ?_⟩, k4, by simpa using hs (by omega)⟩
  · rw [flat_append _ _ _ _ hl, flat_cons, flat_nil, List.append_nil]
    simpa using ho
  · intro k hk
    rcases hat with e | e
    · exact .inl (hb k (by rw [← e]; exact hk))
    · rw [e] at hk
      injection hk with hk
      rw [World.size_alloc] at hk
      exact .inr (.inr ⟨by omega, by have := (ho.lt k (by rw [e, World.size_alloc]; exact congrArg some hk)).2; omega⟩)
  · intro i j x y k hi hj hne hx hy
    rw [List.getElem?_append] at hi hj
    split at hi
    · rename_i hil
      split at hj
      · exact hp i j x y k hi hj hne hx hy
      · obtain ⟨m, hm⟩ : ∃ m, ns[i]? = some m := ⟨_, List.getElem?_eq_getElem (by omega)⟩
        have hF := (hav i x m hi hm).2 k hx
        have hy' : y = a := by
          have := List.mem_of_getElem? hj
          simpa using this
        subst hy'
        exact hd k hy hF
    · rename_i hil
      have hx' : x = a := by
        have := List.mem_of_getElem? hi
        simpa using this
      subst hx'
      split at hj
      · rename_i hjl
        obtain ⟨m, hm⟩ : ∃ m, ns[j]? = some m := ⟨_, List.getElem?_eq_getElem (by omega)⟩
        exact hd k hx ((hav j y m hj hm).2 k hy)
      · have h1 := (List.getElem?_eq_some_iff.1 hi).1
        have h2 := (List.getElem?_eq_some_iff.1 hj).1
        simp at h1 h2
        omega
  · intro i x m hi hm
    rw [List.getElem?_append] at hi hm
    have keep : ∀ {x : Value} {m : Nd}, w.ownsRow 0 3 1 x m.args.length (ints m.args) → w4.ownsRow 0 3 1 x m.args.length (ints m.args) := fun hx => own_kept hx k4 (fun k hk hv => own_ne hx hr (by decide) k hk hv)
    split at hi
    · rename_i hil
      rw [if_pos (by omega)] at hm
      obtain ⟨h1, h2⟩ := hav i x m hi hm
      exact ⟨keep h1, fun k hk => .inl (h2 k hk)⟩
    · rename_i hil
      rw [if_neg (by omega)] at hm
      have hx' : x = a := by
        have := List.mem_of_getElem? hi
        simpa using this
      have hm' : m = n := by
        have := List.mem_of_getElem? hm
        simpa using this
      subst hx' hm'
      exact ⟨keep ha, fun k hk => .inr (.inl hk)⟩

set_option maxRecDepth 100000 in
set_option maxHeartbeats 4000000 in
theorem rnodes_any {F : Nat → Prop} {v : Value} {l : List Nd} {w : World} (hl : NodesR w F v l) (hb : Bulk l) :
    Calls Try.prog 70 #[v] w (RetNodes w l) := by
  obtain ⟨A, c, rfl⟩ := hl.slice
  have HL := Lib.hid hl
  have HB := Lib.hid hb.2
  have hsz := hb.1
  clear hl hb
  go_enter Try.func70, Try.ntmps70
  go_wp2_with fail
  go_loopw [3, 4] (fun t3 t4 wr => ∃ k : Nat, k ≤ l.length ∧ t4 = .int .i64 k ∧ Hid (NodesO wr (Sc w.heap.size wr) t3 (l.take k)) ∧ Hid (Kept No w wr)) (fun _ t4 _ => l.length - (intOf t4).toNat)
  case atStart => exact ⟨0, Nat.zero_le _, rfl, NodesO.nil _ _, Kept.refl _ _⟩
  case round =>
    obtain ⟨k, hk, rfl, HN, HK⟩ := hrel
    have hlk : (l.take k).length = k := by rw [List.length_take]; omega
    obtain ⟨A5, c5, rfl⟩ := HN.out.reads.slice
    by_cases hlt : k < l.length
    · have hn2 : l[k]? = some l[k] := List.getElem?_eq_getElem hlt
      obtain ⟨b1, o1, c3, av, he, _, hb1, m0, m1, m2, m3, m4, hrow⟩ := (HL.out.keptNo HK.out).at_ hn2
      injection he with he _ hc
      subst he hc
      have htk := List.take_add_one (l := l) (i := k)
      rw [hn2] at htk
      generalize l[k] = n at *
      have hsn := HB.out n (List.mem_of_getElem? hn2)
      obtain ⟨Av, cv, rfl⟩ := hrow.slice
      have HR := Lib.hid hrow
      have HT := Lib.hid htk
      clear hn2 hrow htk
      go_wp2_with fail
      refine (copied_any F _ n.args _ (by omega) (HR.out.keptNo ((Kept.refl No wr).alloc _))).mono ?_
      rintro e w3 ⟨a, rfl, ho, k3⟩
      obtain ⟨A6, c6, rfl⟩ := (own_reads ho (F := fun _ => True) (fun _ _ => trivial)).slice
      have g6 : w3.heap[wr.heap.size]? = _ := k3.blk (heap_alloc_new wr _) (fun h => h)
      have hz3 := k3.size
      simp only [World.size_alloc] at hz3 ho
      obtain ⟨⟨r0, r1, r2, r3, r4⟩, s0, s1, s2, s3, s4⟩ := cells5 g6
      have K3 : Kept No wr w3 := ((Kept.refl No wr).alloc _).thenNo k3
      have k4 : Kept (fun i => i = wr.heap.size) w3 (w3.setCell ⟨wr.heap.size, 1, none⟩ (.slice A6 n.args.length c6)) := (Kept.refl (fun i => i = wr.heap.size) w3).setCell (p := ⟨wr.heap.size, 1, none⟩) (.inl rfl) _
      have N4 := (HN.out.keptNo K3).kept k4 (fun i hi e => by have := hi.2; omega)
      have o4 := own_kept ho k4 (fun i hi e => by have := (ho.lt i hi).1; omega)
      have hz0 := HK.out.size
      obtain ⟨v6, w6, happ, ho6, k6, g7, c7, rfl⟩ := nodes_push2 N4 n (.slice A6 n.args.length c6) (own_zero o4) (fun i hi hs => by have := (o4.lt i hi).1; have := hs.2; omega) (by omega)
      dsimp only [ndCells] at happ
      rw [hlk] at happ ho6
      simp only [World.size_setCell] at happ
      have hz6 := k6.size
      rw [World.size_setCell] at hz6
      have N6 : Hid (NodesO w6 (Sc w.heap.size w6) (.slice (some ⟨g7, 0, none⟩) (k + 1) c7) (l.take (k + 1))) := by
        show NodesO _ _ _ _
        rw [HT.out]
        refine ho6.mono (fun i hi _ => ?_)
        rcases hi with hi | hi | hi
        · exact ⟨hi.1, by have := hi.2; omega⟩
        · have := o4.lt i hi
          rw [World.size_setCell] at this
          exact ⟨by omega, by omega⟩
        · rw [World.size_setCell] at hi
          exact ⟨by omega, hi.2⟩
      have K6 : Hid (Kept No w w6) := (((HK.out.thenNo K3).setCell (p := ⟨wr.heap.size, 1, none⟩) (.inr hz0) _).trans k6 (fun i hlt hi => by
          obtain ⟨_, _, _, hF, _⟩ := HN.out
          have := (hF i hi).1; omega))
      clear ho k3 ho6 k6 hz6 K3 k4 N4 o4 g6 hlk
      go_wp2_with (at_builtin; refine wpList_append_run rfl (.tmp 20) (.tmp 22) 39 rfl rfl rfl happ ?_; clear happ)
      exact ⟨⟨k + 1, by omega, by go_num, N6, K6⟩, by (simp [intOf]; try omega)⟩
    · have hke : k = l.length := by omega
      have HF : Hid (RetNodes w l (.returned (.slice A5 l.length c5)) wr) := by
        have := HN.out
        rw [hke, List.take_length] at this
        exact ⟨_, rfl, this, HK.out⟩
      rw [hlk, hke]
      clear hke
      go_wp2_with fail
      go_ret
      exact HF.out

set_option maxRecDepth 100000 in
set_option maxHeartbeats 2000000 in
theorem rmay_any {F : Nat → Prop} {av : Value} {n : Nd} {w : World} (many : Int) (hr : RowR w 1 F av n.args.length (ints n.args)) (hsz : n.args.length ≤ 9223372036854775807) (b : Bool) (hb : b = true ↔ MayP n many) :
    Calls Try.prog 79 #[ndVal av n, .int .i64 many] w (RetBool w b) := by
  obtain ⟨A, c, rfl⟩ := hr.slice
  have HR := Lib.hid hr
  have HB := Lib.hid hb
  have no : Hid (¬ MayP n many → ∀ W, Kept No w W → RetBool w b (.returned (.bool false)) W) := fun h W hk => by
    have : b = false := by
      cases hq : b with
      | false => rfl
      | true => exact absurd (hb.1 hq) h
    exact ⟨by rw [this], hk⟩
  clear hr hb
  have KK : Hid (∀ o, Kept No w (w.alloc o)) := fun o => (Kept.refl No w).alloc o
  unfold ndVal
  by_cases h0 : n.sym < 0
  · have hbad := Lib.hid (no.out (fun h => by have := h.1; omega))
    go_enter Try.func79, Try.ntmps79
    go_wp2_with fail
    go_ret
    exact hbad.out _ (KK.out _)
  by_cases h1 : (6 : Int) < n.args.length
  · have hbad := Lib.hid (no.out (fun h => by have := h.2.1; omega))
    have d0 : decide (n.sym < 0) = false := by simpa using h0
    go_enter Try.func79, Try.ntmps79
    go_wp2_with fail
    go_ret
    exact hbad.out _ (KK.out _)
  by_cases h2 : n.mark < 0
  · have hbad := Lib.hid (no.out (fun h => by have := h.2.2.1; omega))
    have d0 : decide (n.sym < 0) = false := by simpa using h0
    have d1 : decide ((6 : Int) < n.args.length) = false := by simpa using h1
    go_enter Try.func79, Try.ntmps79
    go_wp2_with fail
    go_ret
    exact hbad.out _ (KK.out _)
  by_cases h3 : 2 < n.mark
  · have hbad := Lib.hid (no.out (fun h => by have := h.2.2.2.1; omega))
    have d0 : decide (n.sym < 0) = false := by simpa using h0
    have d1 : decide ((6 : Int) < n.args.length) = false := by simpa using h1
    have d2 : decide (n.mark < 0) = false := by simpa using h2
    go_enter Try.func79, Try.ntmps79
    go_wp2_with fail
    go_ret
    exact hbad.out _ (KK.out _)
  have d0 : decide (n.sym < 0) = false := by simpa using h0
  have d1 : decide ((6 : Int) < n.args.length) = false := by simpa using h1
  have d2 : decide (n.mark < 0) = false := by simpa using h2
  have d3 : decide (2 < n.mark) = false := by simpa using h3
  go_enter Try.func79, Try.ntmps79
  go_wp2_with fail
  go_loop [5] (fun i => ∃ k : Nat, k ≤ n.args.length ∧ i = .int .i64 k ∧ Hid (∀ (j : Nat) (x : Int), j < k → n.args[j]? = some x → 0 ≤ x ∧ x < many)) (fun i => n.args.length - (intOf i).toNat)
  case atStart => exact ⟨0, by omega, rfl, fun j x h => absurd h (by omega)⟩
  case round =>
    obtain ⟨k, hk, rfl, HJ⟩ := hrel
    by_cases hlt : k < n.args.length
    · have hx : n.args[k]? = some n.args[k] := List.getElem?_eq_getElem hlt
      obtain ⟨_, A', c', he, _, hrd⟩ := HR.out.keptNo (KK.out (.cells #[.int .i64 n.sym, .slice A n.args.length c, .int .i64 n.mark, .bool n.pts, .int .i64 n.to] 32))
      obtain ⟨b1, o1, rfl, _, _, hcell⟩ := hrd (by omega)
      injection he with he _ hc
      subst he hc
      have hcx := hcell k (.int .i64 n.args[k]) (by rw [ints_get, hx]; rfl)
      have HX := Lib.hid hx
      clear hcell hrd hx
      generalize n.args[k] = x at *
      by_cases hx0 : x < 0
      · have hbad := Lib.hid (no.out (fun h => by have := (h.2.2.2.2.1 x (List.mem_of_getElem? HX.out)).1; omega))
        go_wp2_with fail
        go_ret
        exact hbad.out _ (KK.out _)
      · have dx0 : decide (x < 0) = false := by simpa using hx0
        by_cases hx1 : many ≤ x
        · have hbad := Lib.hid (no.out (fun h => by have := (h.2.2.2.2.1 x (List.mem_of_getElem? HX.out)).2; omega))
          go_wp2_with fail
          go_ret
          exact hbad.out _ (KK.out _)
        · have HJ2 : Hid (∀ (j : Nat) (y : Int), j < k + 1 → n.args[j]? = some y → 0 ≤ y ∧ y < many) := fun j y hj hy => by
            by_cases hjk : j = k
            · subst hjk; rw [HX.out] at hy; injection hy with hy; omega
            · exact HJ.out j y (by omega) hy
          go_wp2_with fail
          go_round
          case rel => exact ⟨k + 1, by omega, by go_num, HJ2⟩
          case measure => (simp [intOf]; try omega)
    · have hin : Hid (∀ a ∈ n.args, 0 ≤ a ∧ a < many) := fun a ha => by
        obtain ⟨j, hj⟩ := List.getElem?_of_mem ha
        have := (List.getElem?_eq_some_iff.1 hj).1
        exact HJ.out j a (by omega) hj
      have yes : Hid ((n.pts = true → 0 ≤ n.to ∧ n.to < many ∧ n.sym = 0 ∧ n.mark = 0 ∧ n.args = []) → (n.pts = false → n.to = 0) → ∀ W, Kept No w W → RetBool w b (.returned (.bool true)) W) := fun h1 h2 W hk =>
        ⟨by rw [HB.out.2 ⟨by omega, by omega, by omega, by omega, hin.out, h1, h2⟩], hk⟩
      clear HJ
      cases hp : n.pts with
      | true =>
        by_cases t0 : 0 ≤ n.to
        · have e0 : decide (0 ≤ n.to) = true := by simpa using t0
          by_cases t1 : n.to < many
          · have e1 : decide (n.to < many) = true := by simpa using t1
            by_cases t2 : n.sym = 0
            · have e2 : (n.sym == 0) = true := by simpa using t2
              by_cases t3 : n.mark = 0
              · have e3 : (n.mark == 0) = true := by simpa using t3
                by_cases t4 : n.args.length = 0
                · have e4 : ((n.args.length : Int) == 0) = true := by simp; exact List.eq_nil_of_length_eq_zero t4
                  have hgood := Lib.hid (yes.out (fun _ => ⟨by omega, t1, t2, t3, List.eq_nil_of_length_eq_zero t4⟩) (fun h => by rw [hp] at h; cases h))
                  clear t2 t3 t4
                  go_wp2_with fail
                  go_ret
                  exact hgood.out _ (KK.out _)
                · have e4 : ((n.args.length : Int) == 0) = false := by simp; intro h; exact t4 (by rw [h]; rfl)
                  have hbad := Lib.hid (no.out (fun h => t4 (by rw [(h.2.2.2.2.2.1 hp).2.2.2.2]; rfl)))
                  clear t2 t3 t4
                  go_wp2_with fail
                  go_ret
                  exact hbad.out _ (KK.out _)
              · have e3 : (n.mark == 0) = false := by simpa using t3
                have hbad := Lib.hid (no.out (fun h => t3 (h.2.2.2.2.2.1 hp).2.2.2.1))
                clear t2 t3
                go_wp2_with fail
                go_ret
                exact hbad.out _ (KK.out _)
            · have e2 : (n.sym == 0) = false := by simpa using t2
              have hbad := Lib.hid (no.out (fun h => t2 (h.2.2.2.2.2.1 hp).2.2.1))
              clear t2
              go_wp2_with fail
              go_ret
              exact hbad.out _ (KK.out _)
          · have e1 : decide (n.to < many) = false := by simpa using t1
            have hbad := Lib.hid (no.out (fun h => t1 (h.2.2.2.2.2.1 hp).2.1))
            go_wp2_with fail
            go_ret
            exact hbad.out _ (KK.out _)
        · have e0 : decide (0 ≤ n.to) = false := by simpa using t0
          have hbad := Lib.hid (no.out (fun h => t0 (h.2.2.2.2.2.1 hp).1))
          go_wp2_with fail
          go_ret
          exact hbad.out _ (KK.out _)
      | false =>
        by_cases t5 : n.to = 0
        · have e5 : (n.to == 0) = true := by simpa using t5
          have hgood := Lib.hid (yes.out (fun h => by rw [hp] at h; cases h) (fun _ => t5))
          clear t5
          go_wp2_with fail
          go_ret
          exact hgood.out _ (KK.out _)
        · have e5 : (n.to == 0) = false := by simpa using t5
          have hbad := Lib.hid (no.out (fun h => t5 (h.2.2.2.2.2.2 hp)))
          clear t5
          go_wp2_with fail
          go_ret
          exact hbad.out _ (KK.out _)
end Go.Proofs.Ytooalgnppnmeaaa
