/- (*Heap).under, Point. -/
import Derived.Test.YtooalgnppnmeaaaH3
import Derived.Test.YtooalgnppnmeaaaDfs
import Derived.Deep.LoopGhost
import Derived.WalkSmall
namespace Go.Proofs.Ytooalgnppnmeaaa
open Go.RowKit

theorem info4 : (Try.prog.info? 4).map (fun i => (i.zero, i.size, i.bytes)) = some (some (.bool false), 1, 1) := by kernel_rfl

/-- The memory of a walk over a graph: what has been seen, and the stack. -/
structure DfsMem (w0 w : World) (sv tv : Value) (n : Nat) (seen : List Bool) (todo : List Int) : Prop where
  seen : w.ownsRow w0.heap.size 4 1 sv n (bools seen)
  todo : w.ownsRow w0.heap.size 3 1 tv todo.length (ints todo)
  kept : Kept No w0 w

def RetBool (w : World) (b : Bool) (e : Ending) (w' : World) : Prop := e = .returned (.bool b) ∧ Kept No w w'

set_option maxRecDepth 100000 in
set_option maxHeartbeats 2000000 in
theorem under_any {F : Nat → Prop} {hb : Nat} {room : Int} {ns : List Nd} {w : World} (h : HeapO w F hb room ns) (hs : Sane ns) (hlen : ns.length ≤ 4000) (fr a : Int) (hf : inR ns fr = true) (ha : inR ns a = true) (b : Bool) (hb2 : b = true ↔ Reach ns fr a) :
    Calls Try.prog 77 #[.pointer (some ⟨hb, 0, none⟩), .int .i64 fr, .int .i64 a] w (RetBool w b) := by
  have H := Lib.hid h
  obtain ⟨A, c, hfb, hbl, _, z1, _, hn⟩ := h.open_
  have HO := Lib.hid hn
  have HS := Lib.hid hs
  have HB := Lib.hid hb2
  have HA := Lib.hid ha
  have hfr := inR_iff.1 hf
  have harr := inR_iff.1 ha
  clear h hs hb2 hf ha hn
  obtain ⟨sv, w1, hmk, ⟨A1, c1, rfl⟩, ho1, hg1⟩ := run_make_one (P := Try.prog) (z := .bool false) Try.underlying83 info4 rfl ns.length (by omega) (by omega) w
  have k1 : Kept No w w1 := Kept.of_grown hg1 (by simp)
  have hc1 := (k1.cell (p := ⟨hb, 1, none⟩) hbl (fun h => h)).trans z1
  have O1 := Lib.hid ho1
  have K1 := Lib.hid k1
  clear ho1 hg1 k1
  go_enter Try.func77, Try.ntmps77
  go_wp2_with fail
  have D0 : Hid (DfsMem w (w1.alloc (.cells #[.int .i64 fr] 3)) (.slice A1 ns.length c1) (.slice (some ⟨w1.heap.size, 0, none⟩) 1 1) ns.length (List.replicate ns.length false) [fr]) :=
    ⟨by have := O1.out.alloc (.cells #[.int .i64 fr] 3); simpa [bools] using this, World.ownsRow_lit w1 #[.int .i64 fr] 1 K1.out.size (by decide) rfl, K1.out.alloc _⟩
  have P0 : Hid (Dfs ns.length (nextN ns) [fr] (List.replicate ns.length false) [fr]) := Dfs.begin (by simpa using hfr)
  have Q0 : Hid (sees (List.replicate ns.length false) a = false) := by
    show _ = false
    simp [sees, List.getD, List.getElem?_replicate]
    split <;> rfl
  clear hmk hc1 O1 K1
  go_loopg [8] (dfsMu (List.replicate ns.length false) [fr]) (fun gk tv wr => ∃ seen todo, gk = dfsMu seen todo ∧ dfsMu seen todo ≤ 32001 ∧ Hid (DfsMem w wr (.slice A1 ns.length c1) tv ns.length seen todo) ∧ Hid (Dfs ns.length (nextN ns) [fr] seen todo) ∧ Hid (sees seen a = false))
  case atStart => exact ⟨_, _, rfl, by have := dfsMu_begin ns.length 1 [fr] (by simp); omega, D0, P0, Q0⟩
  case round =>
    obtain ⟨seen, todo, hgk, hmu, HD, HP, HQ⟩ := hrel
    have htl0 := dfsMu_todo seen todo
    have HG := Lib.hid hgk
    clear hgk D0 P0 Q0
    rcases List.eq_nil_or_concat todo with rfl | ⟨tl, x, rfl⟩
    · have hfin : b = false := by
        cases hb3 : b with
        | false => rfl
        | true =>
          have hr := reach_iff.1 (HB.out.1 hb3)
          have := (HP.out.done (by simpa using hfr) (fun y d _ hd => nextN_in HS.out y d hd) a harr).2 ⟨fr, by simp, hr⟩
          rw [HQ.out] at this
          cases this
      have HF := Lib.hid hfin
      obtain ⟨A2, c2, rfl⟩ := (own_reads HD.out.todo (F := fun _ => True) (fun _ _ => trivial)).slice
      clear hfin
      go_wp2_with fail
      go_ret
      rw [HF.out]
      exact ⟨rfl, HD.out.kept⟩
    · rw [List.concat_eq_append] at HG HD HP hmu htl0
      have htl5 : tl.length + 1 ≤ 32001 := by simp at htl0; omega
      have HM := Lib.hid hmu
      clear htl0 hmu
      obtain ⟨g, c2, rfl, hc2, hcell, htl, hgb⟩ := stack_top HD.out.todo
      obtain ⟨⟨hx0, hx1⟩, f, hff, hreach⟩ := HP.out.ok x (by simp)
      have hfe : f = fr := by simpa using hff
      subst hfe
      have HX := Lib.hid (reach_iff.2 hreach)
      have HT := Lib.hid htl
      clear hreach hff htl
      by_cases hxa : x = a
      · subst hxa
        have hbt := Lib.hid (HB.out.2 HX.out)
        go_wp2_with fail
        go_ret
        rw [hbt.out]
        exact ⟨rfl, HD.out.kept⟩
      · have hne : (x == a) = false := by simpa using hxa
        have hxl : x.toNat < ns.length := by omega
        obtain ⟨gs, cs, u, he, hu, hcu, hfu, _, _⟩ := own_get HD.out.seen hxl
        injection he with he _ hc
        subst he hc
        have hu2 : u = .bool (sees seen x) := by
          rw [bools_get, List.getElem?_eq_getElem (by rw [HP.out.len]; omega)] at hu
          simp only [Option.map_some, Option.some.injEq] at hu
          rw [← hu]
          simp [sees, List.getD, List.getElem?_eq_getElem (show x.toNat < seen.length by rw [HP.out.len]; omega)]
        subst hu2
        clear hu
        cases hse : sees seen x with
        | true =>
          rw [hse] at hcu
          have HP2 := Lib.hid (HP.out.popSeen hse)
          have HSE := Lib.hid hse
          clear hse
          go_wp2_with fail
          go_roundg (dfsMu seen tl)
          case measure => rw [HG.out]; exact dfsMu_seen
          case rel => exact ⟨seen, tl, rfl, by have := HM.out; have := @dfsMu_seen seen tl x; omega, ⟨HD.out.seen, HT.out, HD.out.kept⟩, HP2, HQ⟩
        | false =>
          rw [hse] at hcu
          obtain ⟨n, hn1, hn2⟩ := ndAt_of (inR_iff.2 ⟨hx0, hx1⟩)
          obtain ⟨gn, cn, av, he, _, hgn, m0, m1, m2, m3, m4, _, hrow⟩ := HO.out.at_ hn2
          injection he with he _ hc
          subst he hc
          obtain ⟨Av, cv, rfl⟩ := hrow.slice
          have h6 := HS.out.few n (List.mem_of_getElem? hn2)
          obtain ⟨st1, st2⟩ := HD.out.seen.stored x.toNat (.bool true)
          rw [bools_set] at st1
          have kW : Kept No w (wr.setCell ⟨gs, x.toNat, none⟩ (.bool true)) := HD.out.kept.grown st2 (fun k hk hlt => by injection hk with hk; subst hk; omega)
          have tW := own_kept HT.out (Kept.of_grown st2 (fun k hk _ => hk)) (fun k hk e => own_ne HT.out HD.out.seen (by decide) k hk (by rw [← e]; simp [Value.ownBlock]))
          obtain ⟨v2, w2, happ, ho2, hg2, _, _⟩ := run_append_row (P := Try.prog) (ty := 22) Try.underlying22 info3 rfl (by decide) tW (hrow.keptNo kW) (ints_one _) (by omega) (by omega) kW.size
          have k2 : Kept No w w2 := kW.grown hg2 (fun k hk hlt => by have := (tW.lt k hk).1; omega)
          have s2 := own_kept st1 (Kept.of_grown hg2 (fun k hk _ => hk)) (fun k hk e => own_ne tW st1 (by decide) k e hk)
          rw [← ints_append] at ho2
          rw [show tl.length + n.args.length = (tl ++ n.args).length by simp] at ho2
          obtain ⟨A2, c2', rfl⟩ := (own_reads ho2 (F := fun _ => True) (fun _ _ => trivial)).slice
          have n1 := (kW.cell (p := ⟨hb, 1, none⟩) hbl (fun h => h)).trans z1
          have n2 := (kW.cell (p := ⟨gn, x.toNat * 5 + 1, none⟩) hgn (fun h => h)).trans m1
          have n3 := (k2.cell (p := ⟨hb, 1, none⟩) hbl (fun h => h)).trans z1
          have n4 := (k2.cell (p := ⟨gn, x.toNat * 5 + 3, none⟩) hgn (fun h => h)).trans m3
          have n5 := (k2.cell (p := ⟨gn, x.toNat * 5 + 4, none⟩) hgn (fun h => h)).trans m4
          have HSE := Lib.hid hse
          have HN1 := Lib.hid hn1
          have D2 : Hid (DfsMem w w2 (.slice (some ⟨gs, 0, none⟩) ns.length c1) (.slice A2 (tl ++ n.args).length c2') ns.length (seen.set x.toNat true) (tl ++ n.args)) := ⟨s2, ho2, k2⟩
          have HPN := Lib.hid (HS.out.ptr n (List.mem_of_getElem? hn2))
          have HQ2 : Hid (sees (seen.set x.toNat true) a = false) := by
            show _ = false
            cases hq : sees (seen.set x.toNat true) a with
            | false => rfl
            | true =>
              rcases (sees_set (by rw [HP.out.len]; exact ⟨hx0, hx1⟩) harr.1).1 hq with e | e
              · exact absurd e.symm hxa
              · rw [HQ.out] at e; cases e
          have step : Hid (∀ more, more = n.down → Dfs ns.length (nextN ns) [f] (seen.set x.toNat true) (tl ++ more) ∧ dfsMu (seen.set x.toNat true) (tl ++ more) < dfsMu seen (tl ++ [x])) := by
            rintro more rfl
            have hnx : nextN ns x = n.down := by simp [nextN, HN1.out]
            refine ⟨HP.out.popNew (fun d => by rw [hnx]) (fun d hd => nextN_in HS.out x d hd), dfsMu_new (by rw [HP.out.len]; exact ⟨hx0, hx1⟩) HSE.out ?_⟩
            unfold Nd.down
            split
            · simp
            · omega
          clear hse hn1 hn2 st1 st2 kW tW hg2 k2 s2 ho2 m0 m1 m2 m3 m4 hrow
          cases hpt : n.pts with
          | false =>
            rw [hpt] at n4
            have hdn : n.args = n.down := by simp [Nd.down, hpt]
            have HDN := Lib.hid hdn
            clear hpt hdn
            go_wp2_with (at_builtin; refine wpList_append_run rfl (.tmp 42) (.tmp 50) 22 rfl rfl rfl happ ?_; clear happ)
            go_roundg (dfsMu (seen.set x.toNat true) (tl ++ n.args))
            case measure => rw [HG.out]; exact (step.out _ HDN.out).2
            case rel => exact ⟨_, _, rfl, by have := HM.out; have := (step.out _ HDN.out).2; omega, by simpa only [List.length_append] using D2, (step.out _ HDN.out).1, HQ2⟩
          | true =>
            rw [hpt] at n4
            have hz := HPN.out hpt
            have hdn : [n.to] = n.down := by simp [Nd.down, hpt]
            have HDN := Lib.hid hdn
            have ho3 := D2.out.todo
            have hk3 := D2.out.kept
            rw [hz, List.append_nil] at ho3
            obtain ⟨v4, w4, happ2, ho4, hg4, _, _⟩ := run_append_row (P := Try.prog) (ty := 22) Try.underlying22 info3 rfl (by decide) (ho3.alloc (.cells #[.int .i64 n.to] 3)) (RowR.new w2 1 1 #[.int .i64 n.to] 3 rfl) (ints_one [n.to]) (by omega) (by omega) (Nat.le_trans hk3.size (by simp))
            have e4 : (tl ++ n.args).length = tl.length := by rw [hz, List.append_nil]
            have ho4 : w4.ownsRow w.heap.size 3 1 v4 (tl.length + 1) (ints tl ++ ints [n.to]) := ho4
            rw [← ints_append] at ho4
            have ho4 : w4.ownsRow w.heap.size 3 1 v4 (tl.length + 1) (ints (tl ++ [n.to])) := ho4
            obtain ⟨A4, c4, rfl⟩ := (own_reads ho4 (F := fun _ => True) (fun _ _ => trivial)).slice
            have k4 : Kept No w w4 := (hk3.alloc _).grown hg4 (fun k hk hlt => by have := (ho3.lt k hk).1; omega)
            have s4 := own_kept (D2.out.seen.alloc (.cells #[.int .i64 n.to] 3)) (Kept.of_grown hg4 (fun k hk _ => hk)) (fun k hk e => own_ne (ho3.alloc (.cells #[.int .i64 n.to] 3)) (D2.out.seen.alloc (.cells #[.int .i64 n.to] 3)) (by decide) k e hk)
            have D4 : Hid (DfsMem w w4 (.slice (some ⟨gs, 0, none⟩) ns.length c1) (.slice A4 (tl.length + 1) c4) ns.length (seen.set x.toNat true) (tl ++ [n.to])) := ⟨s4, by simpa using ho4, k4⟩
            rw [e4] at happ
            clear hpt hdn ho3 hk3 ho4 hg4 k4 s4 e4 hz
            go_wp2_with (first | (at_builtin; refine wpList_append_run rfl (.tmp 42) (.tmp 50) 22 rfl rfl rfl happ ?_; clear happ) | (at_builtin; refine wpList_append_run rfl (.tmp 60) (.tmp 69) 22 rfl rfl rfl happ2 ?_; clear happ2))
            go_roundg (dfsMu (seen.set x.toNat true) (tl ++ [n.to]))
            case measure => rw [HG.out]; exact (step.out _ HDN.out).2
            case rel => exact ⟨_, _, rfl, by have := HM.out; have := (step.out _ HDN.out).2; omega, D4, (step.out _ HDN.out).1, HQ2⟩

open Classical in
/-- What Point does. -/
noncomputable def pointP (ns : List Nd) (a to : Int) : List Nd × Int :=
  if inR ns a = false ∨ inR ns to = false then (ns, 112) else if Reach ns to a then (ns, 113) else (ns.set a.toNat ⟨0, [], 0, true, to⟩, 0)

set_option maxHeartbeats 1000000 in
theorem point_any {F : Nat → Prop} {hb : Nat} {room : Int} {ns : List Nd} {w : World} (h : HeapO w F hb room ns) (hs : Sane ns) (hlen : ns.length ≤ 4000) (a to : Int) :
    Calls Try.prog 51 #[.pointer (some ⟨hb, 0, none⟩), .int .i64 a, .int .i64 to] w (RetErr w F hb room (pointP ns a to)) := by
  have H := Lib.hid h
  have HS := Lib.hid hs
  clear h hs
  have bad : ∀ q r, inR ns a = q → inR ns to = r → (q = false ∨ r = false) → pointP ns a to = (ns, 112) := by
    intro q r h1 h2 h3
    unfold pointP
    rw [if_pos (by rw [h1, h2]; exact h3)]
  cases hq : inR ns a with
  | false =>
    have HP := Lib.hid (bad false _ hq rfl (.inl rfl))
    have HQ := Lib.hid hq
    clear hq bad
    go_enter Try.func51, Try.ntmps51
    go_wp2_with fail
    refine (has_any H.out a).mono ?_
    rintro e w1 ⟨rfl, rfl⟩
    rw [HQ.out]
    go_wp2_with fail
    go_ret
    rw [HP.out]
    exact ⟨rfl, H.out, Kept.refl _ _⟩
  | true =>
    cases hr : inR ns to with
    | false =>
      have HP := Lib.hid (bad true false hq hr (.inr rfl))
      have HQ := Lib.hid hq
      have HR := Lib.hid hr
      clear hq bad hr
      go_enter Try.func51, Try.ntmps51
      go_wp2_with fail
      refine (has_any H.out a).mono ?_
      rintro e w1 ⟨rfl, rfl⟩
      rw [HQ.out]
      go_wp2_with fail
      refine (has_any H.out to).mono ?_
      rintro e w1 ⟨rfl, rfl⟩
      rw [HR.out]
      go_wp2_with fail
      go_ret
      rw [HP.out]
      exact ⟨rfl, H.out, Kept.refl _ _⟩
    | true =>
      obtain ⟨b, hb2⟩ : ∃ b : Bool, b = true ↔ Reach ns to a := by
        classical
        exact ⟨decide (Reach ns to a), by simp⟩
      have HU := Lib.hid (under_any H.out HS.out hlen to a hr hq b hb2)
      have HQ := Lib.hid hq
      have HR := Lib.hid hr
      cases hbb : b with
      | true =>
        have hp : pointP ns a to = (ns, 113) := by unfold pointP; rw [if_neg (by rw [hq, hr]; simp), if_pos (hb2.1 hbb)]
        have HP := Lib.hid hp
        rw [hbb] at HU
        clear hq bad hr hp hb2 hbb
        go_enter Try.func51, Try.ntmps51
        go_wp2_with fail
        refine (has_any H.out a).mono ?_
        rintro e w1 ⟨rfl, rfl⟩
        rw [HQ.out]
        go_wp2_with fail
        refine (has_any H.out to).mono ?_
        rintro e w1 ⟨rfl, rfl⟩
        rw [HR.out]
        go_wp2_with fail
        refine HU.out.mono ?_
        rintro e w2 ⟨rfl, k2⟩
        have K2 := Lib.hid k2
        clear k2
        go_wp2_with fail
        go_ret
        rw [HP.out]
        exact ⟨rfl, H.out.keptNo K2.out, K2.out.all⟩
      | false =>
        have hp : pointP ns a to = (ns.set a.toNat ⟨0, [], 0, true, to⟩, 0) := by
          unfold pointP
          rw [if_neg (by rw [hq, hr]; simp), if_neg (fun h => by have := hb2.2 h; rw [hbb] at this; cases this)]
        have HP := Lib.hid hp
        rw [hbb] at HU
        obtain ⟨n, hn1, hn2⟩ := ndAt_of hq
        obtain ⟨a0, a1⟩ := inR_iff.1 hq
        have HN2 := Lib.hid hn2
        clear hq bad hr hp hb2 hbb hn1 hn2
        go_enter Try.func51, Try.ntmps51
        go_wp2_with fail
        refine (has_any H.out a).mono ?_
        rintro e w1 ⟨rfl, rfl⟩
        rw [HQ.out]
        go_wp2_with fail
        refine (has_any H.out to).mono ?_
        rintro e w1 ⟨rfl, rfl⟩
        rw [HR.out]
        go_wp2_with fail
        refine HU.out.mono ?_
        rintro e w2 ⟨rfl, k2⟩
        have h2 := H.out.keptNo k2
        obtain ⟨A, c, _, _, _, z1, _, hn⟩ := h2.open_
        obtain ⟨g, c', av, he, _, _, c0, c1, c2, c3, c4, hf, _⟩ := hn.at_ HN2.out
        injection he with he _ hc
        subst he hc
        have f0 := hf (a.toNat * 5)
        have f1 := hf (a.toNat * 5 + 1)
        have f2 := hf (a.toNat * 5 + 2)
        have f3 := hf (a.toNat * 5 + 3)
        have f4 := hf (a.toNat * 5 + 4)
        have il : a.toNat < ns.length := by omega
        have gs : ∀ (ms : List Nd) (m : Nd), a.toNat < ms.length → (ms.set a.toNat m)[a.toNat]? = some m := fun ms m h => by simp [h]
        obtain ⟨s0, k0, y0⟩ := heap_store (k := 0) (m := { n with sym := 0 }) h2 z1 (fun hn => nodes_store (u := .int .i64 0) hn HN2.out (by omega) rfl (fun a => by simp [ndCells]))
        obtain ⟨s1, k1, y1⟩ := heap_store (k := 1) (m := { n with sym := 0, args := [] }) s0 y0 (fun hn => nodes_storeA hn (gs _ _ il) rfl)
        obtain ⟨s2, k3, y2⟩ := heap_store (k := 2) (m := { n with sym := 0, args := [], mark := 0 }) s1 y1 (fun hn => nodes_store (u := .int .i64 0) hn (gs _ _ (by simpa using il)) (by omega) rfl (fun a => by simp [ndCells]))
        obtain ⟨s3, k4, y3⟩ := heap_store (k := 3) (m := { n with sym := 0, args := [], mark := 0, pts := true }) s2 y2 (fun hn => nodes_store (u := .bool true) hn (gs _ _ (by simpa using il)) (by omega) rfl (fun a => by simp [ndCells]))
        obtain ⟨s4, k5, y4⟩ := heap_store (k := 4) (m := ⟨0, [], 0, true, to⟩) s3 y3 (fun hn => nodes_store (u := .int .i64 to) hn (gs _ _ (by simpa using il)) (by omega) rfl (fun a => by simp [ndCells]))
        have S4 := Lib.hid s4
        have K5 := Lib.hid (((((k2.all (F := F)).trans k0 (fun _ _ h => h)).trans k1 (fun _ _ h => h)).trans k3 (fun _ _ h => h)).trans k4 (fun _ _ h => h) |>.trans k5 (fun _ _ h => h))
        clear s0 s1 s2 s3 s4 k0 k1 k2 k3 k4 k5 y0 y1 y2 y3 y4 hf hn h2 gs
        go_wp2_with fail
        go_ret
        rw [HP.out]
        exact ⟨rfl, by simpa only [List.set_set, Nat.add_zero] using S4.out, K5.out⟩

/-- Clear. -/
def clearP (ns : List Nd) : List Nd := ns.map fun n => { n with mark := 0 }
theorem clear_step (ns : List Nd) (k : Nat) (h : k < ns.length) : (clearP (ns.take k) ++ ns.drop k).set k { ns[k] with mark := 0 } = clearP (ns.take (k + 1)) ++ ns.drop (k + 1) := by
  have e1 : clearP (ns.take (k + 1)) = clearP (ns.take k) ++ [{ ns[k] with mark := 0 }] := by
    unfold clearP
    rw [List.take_add_one, List.getElem?_eq_getElem h, List.map_append]
    rfl
  have e2 : ns.drop k = ns[k] :: ns.drop (k + 1) := List.drop_eq_getElem_cons h
  have e3 : (clearP (ns.take k)).length = k := by simp [clearP]; omega
  rw [e1, e2, List.set_append_right _ _ (by omega), e3, Nat.sub_self, List.set_cons_zero, List.append_assoc]
  rfl
theorem clear_any {F : Nat → Prop} {hb : Nat} {room : Int} {ns : List Nd} {w : World} (h : HeapO w F hb room ns) (hlen : ns.length ≤ 4000) :
    Calls Try.prog 67 #[.pointer (some ⟨hb, 0, none⟩)] w fun e w' => e = .returned (.tuple #[]) ∧ HeapO w' F hb room (clearP ns) ∧ Kept F w w' := by
  obtain ⟨A, c, _, _, _, z1, _, _⟩ := h.open_
  have H := Lib.hid h
  clear h
  go_enter Try.func67, Try.ntmps67
  go_wp2_with fail
  go_loopw [10] (fun i wr => ∃ k : Nat, k ≤ ns.length ∧ i = .int .i64 k ∧ Hid (HeapO wr F hb room (clearP (ns.take k) ++ ns.drop k)) ∧ Hid (Kept F w wr)) (fun i _ => ns.length - (intOf i).toNat)
  case atStart => exact ⟨0, Nat.zero_le _, rfl, by simpa [clearP] using H, Kept.refl _ _⟩
  case round =>
    obtain ⟨k, hk, rfl, HH, HK⟩ := hrel
    by_cases hlt : k < ns.length
    · have hx : (clearP (ns.take k) ++ ns.drop k)[k]? = some ns[k] := by
        rw [List.getElem?_append_right (by simp [clearP]; omega)]
        simp [clearP, show min k ns.length = k by omega]
      have hl : (clearP (ns.take k) ++ ns.drop k).length = ns.length := by simp [clearP]; omega
      have hnext := clear_step ns k hlt
      obtain ⟨A2, c2, _, _, _, y1, _, hn⟩ := HH.out.open_
      obtain ⟨g, c', av, he, _, _, c0, c1, c2', c3, c4, hf, _⟩ := hn.at_ hx
      injection he with he _ hc
      subst he hc
      have f2 := hf (k * 5 + 2)
      obtain ⟨s1, s2, _⟩ := heap_store (m := { ns[k] with mark := 0 }) HH.out y1 (fun hn => nodes_store (k := 2) (u := .int .i64 0) hn hx (by omega) rfl (fun a => by simp [ndCells]))
      rw [hnext] at s1
      rw [hl] at y1
      have S1 := Lib.hid s1
      have S2 := Lib.hid (HK.out.trans s2 (fun _ _ h => h))
      clear hx hnext s1 s2 hn hf c0 c1 c3 c4 z1 hl
      go_wp2_with fail
      go_roundw
      case rel => exact ⟨k + 1, by omega, by go_num, S1, S2⟩
      case measure => (simp [intOf]; try omega)
    · have hke : k = ns.length := by omega
      have HF : Hid (HeapO wr F hb room (clearP ns)) := by
        have := HH.out
        rw [hke, List.take_length, List.drop_length, List.append_nil] at this
        exact this
      clear hke
      go_wp2_with fail
      go_end0
      exact ⟨rfl, HF.out, HK.out⟩
end Go.Proofs.Ytooalgnppnmeaaa
