/- The document's Under and Point. -/
import Derived.Test.YtooalgnppnmeaaaRH2
import Derived.Deep.LoopGhost
namespace Go.Proofs.Ytooalgnppnmeaaa
open Go.RowKit

def RetSeen (w : World) (ns : List Nd) (fs : List Int) (e : Ending) (w' : World) : Prop :=
  ∃ v seen, e = .returned v ∧ w'.ownsRow w.heap.size 4 1 v ns.length (bools seen) ∧ seen.length = ns.length ∧ (∀ x, inR ns x = true → (sees seen x = true ↔ ∃ f ∈ fs, Reach ns f x)) ∧ Kept No w w'

set_option maxRecDepth 100000 in
set_option maxHeartbeats 4000000 in
theorem runder_any {F G : Nat → Prop} {lv v : Value} {ns : List Nd} {fs : List Int} {w : World} (hl : NodesR w F lv ns) (hs : Sane ns) (hlen : ns.length ≤ 4000) (hv : RowR w 1 G v fs.length (ints fs)) (hfs : ∀ f ∈ fs, 0 ≤ f ∧ f < ns.length) (hsz : fs.length ≤ 2000000) :
    Calls Try.prog 75 #[lv, v] w (RetSeen w ns fs) := by
  obtain ⟨A, c, rfl⟩ := hl.slice
  obtain ⟨Av, cv, rfl⟩ := hv.slice
  have HL := Lib.hid hl
  have HV := Lib.hid hv
  have HS := Lib.hid hs
  have HFS := Lib.hid hfs
  clear hl hv hs hfs
  obtain ⟨sv, w1, hmk, ⟨A1, c1, rfl⟩, ho1, hg1⟩ := run_make_one (P := Try.prog) (z := .bool false) Try.underlying83 info4 rfl ns.length (by omega) (by omega) w
  have k1 : Kept No w w1 := Kept.of_grown hg1 (by simp)
  have O1 := Lib.hid ho1
  have K1 := Lib.hid k1
  clear ho1 hg1 k1
  go_enter Try.func75, Try.ntmps75
  go_wp2_with fail
  clear hmk
  refine (copied_any G _ fs _ (by omega) (HV.out.keptNo K1.out)).mono ?_
  rintro e w2 ⟨tv, rfl, ht, k2⟩
  have D0 : Hid (DfsMem w w2 (.slice A1 ns.length c1) tv ns.length (List.replicate ns.length false) fs) :=
    ⟨own_kept (by simpa [bools] using O1.out) k2 (fun _ _ hn => hn), own_base ht (fun k hk => by have := (ht.lt k hk).1; have := K1.out.size; omega), K1.out.thenNo k2⟩
  have P0 : Hid (Dfs ns.length (nextN ns) fs (List.replicate ns.length false) fs) := Dfs.begin HFS.out
  obtain ⟨At, ct, rfl⟩ := (own_reads ht (F := fun _ => True) (fun _ _ => trivial)).slice
  clear ht k2 O1 K1
  go_wp2_with fail
  go_loopg [6] (dfsMu (List.replicate ns.length false) fs) (fun gk tv wr => ∃ seen todo, gk = dfsMu seen todo ∧ dfsMu seen todo ≤ 2040000 ∧ Hid (DfsMem w wr (.slice A1 ns.length c1) tv ns.length seen todo) ∧ Hid (Dfs ns.length (nextN ns) fs seen todo))
  case atStart => exact ⟨_, _, rfl, by have := dfsMu_begin ns.length fs.length fs (Nat.le_refl _); omega, D0, P0⟩
  case round =>
    obtain ⟨seen, todo, hgk, hmu, HD, HP⟩ := hrel
    have htl0 := dfsMu_todo seen todo
    have HG := Lib.hid hgk
    clear hgk D0 P0
    rcases List.eq_nil_or_concat todo with rfl | ⟨tl, x, rfl⟩
    · have hfin : Hid (RetSeen w ns fs (.returned (.slice A1 ns.length c1)) wr) :=
        ⟨_, seen, rfl, HD.out.seen, HP.out.len, fun x hx => by
          rw [HP.out.done HFS.out (fun y d _ hd => nextN_in HS.out y d hd) x (inR_iff.1 hx)]
          exact ⟨fun ⟨f, h1, h2⟩ => ⟨f, h1, reach_iff.2 h2⟩, fun ⟨f, h1, h2⟩ => ⟨f, h1, reach_iff.1 h2⟩⟩, HD.out.kept⟩
      obtain ⟨A2, c2, rfl⟩ := (own_reads HD.out.todo (F := fun _ => True) (fun _ _ => trivial)).slice
      go_wp2_with fail
      go_ret
      exact hfin.out
    · rw [List.concat_eq_append] at HG HD HP hmu htl0
      have htl5 : tl.length + 1 ≤ 2040000 := by simp at htl0; omega
      have HM := Lib.hid hmu
      clear htl0 hmu
      obtain ⟨g, c2, rfl, hc2, hcell, htl, hgb⟩ := stack_top HD.out.todo
      obtain ⟨⟨hx0, hx1⟩, _⟩ := HP.out.ok x (by simp)
      have HT := Lib.hid htl
      clear htl
      have hxl : x.toNat < ns.length := by omega
      obtain ⟨gs, cs, u, he, hu, hcu, hfu, _, _⟩ := own_get HD.out.seen hxl
      injection he with he _ hc
      subst he hc
      have hu2 : u = .bool (sees seen x) := by
        rw [bools_get, List.getElem?_eq_getElem (by rw [HP.out.len]; omega)] at hu
        simp only [Option.map_some, Option.some.injEq] at hu
        rw [← hu]
        simp [sees, List.getD, List.getElem?_eq_getElem (show x.toNat < seen.length by rw [HP.out.len]; omega)]
      subst hu2
      clear hu
      cases hse : sees seen x with
      | true =>
        rw [hse] at hcu
        have HP2 := Lib.hid (HP.out.popSeen hse)
        clear hse
        go_wp2_with fail
        go_roundg (dfsMu seen tl)
        case measure => rw [HG.out]; exact dfsMu_seen
        case rel => exact ⟨seen, tl, rfl, by have := HM.out; have := @dfsMu_seen seen tl x; omega, ⟨HD.out.seen, HT.out, HD.out.kept⟩, HP2⟩
      | false =>
        rw [hse] at hcu
        obtain ⟨n, hn1, hn2⟩ := ndAt_of (inR_iff.2 ⟨hx0, hx1⟩)
        obtain ⟨st1, st2⟩ := HD.out.seen.stored x.toNat (.bool true)
        rw [bools_set] at st1
        have kW : Kept No w (wr.setCell ⟨gs, x.toNat, none⟩ (.bool true)) := HD.out.kept.grown st2 (fun k hk hlt => by injection hk with hk; subst hk; omega)
        have tW := own_kept HT.out (Kept.of_grown st2 (fun k hk _ => hk)) (fun k hk e => own_ne HT.out HD.out.seen (by decide) k hk (by rw [← e]; simp [Value.ownBlock]))
        obtain ⟨bn, on, cn, av, he, _, hbn, m0, m1, m2, m3, m4, hrow⟩ := (HL.out.keptNo kW).at_ hn2
        injection he with he _ hc
        subst he hc
        obtain ⟨Aa, ca, rfl⟩ := hrow.slice
        have ST := Lib.hid st1
        have TW := Lib.hid tW
        have KW := Lib.hid kW
        have HR := Lib.hid hrow
        have HSE := Lib.hid hse
        have HN1 := Lib.hid hn1
        have h6 := HS.out.few n (List.mem_of_getElem? hn2)
        have hdl : n.down.length ≤ 6 := by unfold Nd.down; split; exact (by simp); exact h6
        have step : Hid (Dfs ns.length (nextN ns) fs (seen.set x.toNat true) (tl ++ n.down) ∧ dfsMu (seen.set x.toNat true) (tl ++ n.down) < dfsMu seen (tl ++ [x])) := by
          have hnx : nextN ns x = n.down := by simp [nextN, HN1.out]
          exact ⟨HP.out.popNew (fun d => by rw [hnx]) (fun d hd => nextN_in HS.out x d hd), dfsMu_new (by rw [HP.out.len]; exact ⟨hx0, hx1⟩) HSE.out (by omega)⟩
        clear hse hn1 hn2 st1 st2 kW tW hrow
        go_wp2_with fail
        refine (down_any HR.out).mono ?_
        rintro e w3 ⟨dv, rfl, hd, k3⟩
        obtain ⟨v4, w4, happ, ho4, hg4, _, _⟩ := run_append_row (P := Try.prog) (ty := 22) Try.underlying22 info3 rfl (by decide) (own_kept TW.out k3 (fun _ _ hn => hn)) hd (ints_one _) (by omega) (by omega) (Nat.le_trans KW.out.size k3.size)
        have t3 := own_kept TW.out k3 (fun _ _ hn => hn)
        have k4 : Kept No w w4 := (KW.out.thenNo k3).grown hg4 (fun k hk hlt => by have := (TW.out.lt k hk).1; omega)
        have s3 := own_kept ST.out k3 (fun _ _ hn => hn)
        have s4 := own_kept s3 (Kept.of_grown hg4 (fun k hk _ => hk)) (fun k hk e => own_ne t3 s3 (by decide) k e hk)
        rw [← ints_append] at ho4
        obtain ⟨A4, c4, rfl⟩ := (own_reads ho4 (F := fun _ => True) (fun _ _ => trivial)).slice
        have D4 : Hid (DfsMem w w4 (.slice (some ⟨gs, 0, none⟩) ns.length c1) (.slice A4 (tl.length + n.down.length) c4) ns.length (seen.set x.toNat true) (tl ++ n.down)) := ⟨s4, by simpa using ho4, k4⟩
        obtain ⟨Ad, cd, rfl⟩ := hd.slice
        clear t3 k4 s3 s4 ho4 hg4 hd k3 m0 m1 m2 m3 m4
        go_wp2_with (at_builtin; refine wpList_append_run rfl (.tmp 35) (.tmp 40) 22 rfl rfl rfl happ ?_; clear happ)
        go_roundg (dfsMu (seen.set x.toNat true) (tl ++ n.down))
        case measure => rw [HG.out]; exact step.out.2
        case rel => exact ⟨_, _, rfl, by have := HM.out; have := step.out.2; omega, D4, step.out.1⟩

theorem sees_row {w : World} {base n : Nat} {v : Value} {seen : List Bool} (h : w.ownsRow base 4 1 v n (bools seen)) (hn : seen.length = n) {x : Int} (hx : 0 ≤ x ∧ x < n) : ∃ g c, v = .slice (some ⟨g, 0, none⟩) n c ∧ w.cell? ⟨g, x.toNat, none⟩ = some (.bool (sees seen x)) := by
  obtain ⟨g, c, u, e, hu, hc, _⟩ := own_get h (i := x.toNat) (by omega)
  rw [bools_get, List.getElem?_eq_getElem (by omega)] at hu
  refine ⟨g, c, e, ?_⟩
  rw [hc, ← hu]
  simp [sees, List.getD, List.getElem?_eq_getElem (show x.toNat < seen.length by omega)]

set_option maxRecDepth 100000 in
set_option maxHeartbeats 1000000 in
theorem rpoint_any {F : Nat → Prop} {hb : Nat} {room : Int} {ns : List Nd} {w : World} (h : RHeapO w F hb room ns) (hs : Sane ns) (hlen : ns.length ≤ 4000) (a t : Int) :
    Calls Try.prog 65 #[.pointer (some ⟨hb, 0, none⟩), .int .i64 a, .int .i64 t] w (RRetErr w F hb room (pointP ns a t)) := by
  have H := Lib.hid h
  have HS := Lib.hid hs
  clear h hs
  have bad : ∀ q r, inR ns a = q → inR ns t = r → (q = false ∨ r = false) → pointP ns a t = (ns, 112) := by
    intro q r h1 h2 h3
    unfold pointP
    rw [if_pos (by rw [h1, h2]; exact h3)]
  cases hq : inR ns a with
  | false =>
    have HP := Lib.hid (bad false _ hq rfl (.inl rfl))
    have HQ := Lib.hid hq
    clear hq bad
    go_enter Try.func65, Try.ntmps65
    go_wp2_with fail
    refine (rhas_any H.out a).mono ?_
    rintro e w1 ⟨rfl, rfl⟩
    rw [HQ.out]
    go_wp2_with fail
    go_ret
    rw [HP.out]
    exact ⟨rfl, H.out, Kept.refl _ _⟩
  | true =>
    cases hr : inR ns t with
    | false =>
      have HP := Lib.hid (bad true false hq hr (.inr rfl))
      have HQ := Lib.hid hq
      have HR := Lib.hid hr
      clear hq bad hr
      go_enter Try.func65, Try.ntmps65
      go_wp2_with fail
      refine (rhas_any H.out a).mono ?_
      rintro e w1 ⟨rfl, rfl⟩
      rw [HQ.out]
      go_wp2_with fail
      refine (rhas_any H.out t).mono ?_
      rintro e w1 ⟨rfl, rfl⟩
      rw [HR.out]
      go_wp2_with fail
      go_ret
      rw [HP.out]
      exact ⟨rfl, H.out, Kept.refl _ _⟩
    | true =>
      obtain ⟨A, c, _, _, _, z1, _, hn0⟩ := H.out.open_
      have HU := Lib.hid (runder_any (hn0.reads.keptNo ((Kept.refl No w).alloc (.cells #[.int .i64 t] 3))) HS.out hlen (fs := [t]) (RowR.new w 1 1 #[.int .i64 t] 3 rfl) (fun f hf => inR_iff.1 (List.mem_singleton.1 hf ▸ hr)) (by simp))
      have HA := Lib.hid hq
      have HQ := Lib.hid hq
      have HR := Lib.hid hr
      obtain ⟨a0, a1⟩ := inR_iff.1 hq
      clear hn0
      by_cases hre : Reach ns t a
      · have hp : pointP ns a t = (ns, 113) := by unfold pointP; rw [if_neg (by rw [hq, hr]; simp), if_pos hre]
        have HP := Lib.hid hp
        have HRE := Lib.hid hre
        clear hq bad hr hp hre
        go_enter Try.func65, Try.ntmps65
        go_wp2_with fail
        refine (rhas_any H.out a).mono ?_
        rintro e w1 ⟨rfl, rfl⟩
        rw [HQ.out]
        go_wp2_with fail
        refine (rhas_any H.out t).mono ?_
        rintro e w1 ⟨rfl, rfl⟩
        rw [HR.out]
        go_wp2_with fail
        refine HU.out.mono ?_
        rintro e w2 ⟨v, seen, rfl, ho, hsl, hse, k2⟩
        obtain ⟨g, c2, rfl, hc⟩ := sees_row ho hsl (x := a) ⟨a0, a1⟩
        rw [(hse a HA.out).2 ⟨t, by simp, HRE.out⟩] at hc
        have K2 : Hid (Kept No w w2) := ((Kept.refl No w).alloc _).thenNo k2
        clear k2 ho hse hsl
        go_wp2_with fail
        go_ret
        rw [HP.out]
        exact ⟨rfl, H.out.keptNo K2.out, K2.out.all⟩
      · have hp : pointP ns a t = (ns.set a.toNat ⟨0, [], 0, true, t⟩, 0) := by
          unfold pointP
          rw [if_neg (by rw [hq, hr]; simp), if_neg hre]
        have HP := Lib.hid hp
        have HRE := Lib.hid hre
        obtain ⟨n, hn1, hn2⟩ := ndAt_of hq
        have HN2 := Lib.hid hn2
        clear hq bad hr hp hre hn1 hn2
        go_enter Try.func65, Try.ntmps65
        go_wp2_with fail
        refine (rhas_any H.out a).mono ?_
        rintro e w1 ⟨rfl, rfl⟩
        rw [HQ.out]
        go_wp2_with fail
        refine (rhas_any H.out t).mono ?_
        rintro e w1 ⟨rfl, rfl⟩
        rw [HR.out]
        go_wp2_with fail
        refine HU.out.mono ?_
        rintro e w2 ⟨v, seen, rfl, ho, hsl, hse, k2⟩
        obtain ⟨gv, cv, rfl, hcv⟩ := sees_row ho hsl (x := a) ⟨a0, a1⟩
        have hse2 : sees seen a = false := by
          cases hq2 : sees seen a with
          | false => rfl
          | true =>
            obtain ⟨f, hf, hfr⟩ := (hse a HA.out).1 hq2
            have : f = t := by simpa using hf
            subst this
            exact absurd hfr HRE.out
        rw [hse2] at hcv
        replace k2 : Kept No w w2 := ((Kept.refl No w).alloc _).thenNo k2
        have h2 := H.out.keptNo k2
        obtain ⟨A, c, _, _, _, z1, _, hn⟩ := h2.open_
        obtain ⟨g, c', av, he, _, _, c0, c1, c2, c3, c4, hf, _⟩ := hn.at_ HN2.out
        injection he with he _ hc
        subst he hc
        have f0 := hf (a.toNat * 5)
        have f1 := hf (a.toNat * 5 + 1)
        have f2 := hf (a.toNat * 5 + 2)
        have f3 := hf (a.toNat * 5 + 3)
        have f4 := hf (a.toNat * 5 + 4)
        have il : a.toNat < ns.length := by omega
        have gs : ∀ (ms : List Nd) (m : Nd), a.toNat < ms.length → (ms.set a.toNat m)[a.toNat]? = some m := fun ms m h => by simp [h]
        obtain ⟨s0, k0, y0⟩ := rheap_store (k := 0) (m := { n with sym := 0 }) h2 z1 (fun hn => nodes_store (u := .int .i64 0) hn HN2.out (by omega) rfl (fun a => by simp [ndCells]))
        obtain ⟨s1, k1, y1⟩ := rheap_store (k := 1) (m := { n with sym := 0, args := [] }) s0 y0 (fun hn => nodes_storeA hn (gs _ _ il) rfl)
        obtain ⟨s2, k3, y2⟩ := rheap_store (k := 2) (m := { n with sym := 0, args := [], mark := 0 }) s1 y1 (fun hn => nodes_store (u := .int .i64 0) hn (gs _ _ (by simpa using il)) (by omega) rfl (fun a => by simp [ndCells]))
        obtain ⟨s3, k4, y3⟩ := rheap_store (k := 3) (m := { n with sym := 0, args := [], mark := 0, pts := true }) s2 y2 (fun hn => nodes_store (u := .bool true) hn (gs _ _ (by simpa using il)) (by omega) rfl (fun a => by simp [ndCells]))
        obtain ⟨s4, k5, y4⟩ := rheap_store (k := 4) (m := ⟨0, [], 0, true, t⟩) s3 y3 (fun hn => nodes_store (u := .int .i64 t) hn (gs _ _ (by simpa using il)) (by omega) rfl (fun a => by simp [ndCells]))
        have S4 := Lib.hid s4
        have K5 := Lib.hid (((((k2.all (F := F)).trans k0 (fun _ _ h => h)).trans k1 (fun _ _ h => h)).trans k3 (fun _ _ h => h)).trans k4 (fun _ _ h => h) |>.trans k5 (fun _ _ h => h))
        clear s0 s1 s2 s3 s4 k0 k1 k2 k3 k4 k5 y0 y1 y2 y3 y4 hf hn h2 gs ho hse hse2 hsl
        go_wp2_with fail
        go_ret
        rw [HP.out]
        exact ⟨rfl, by simpa only [List.set_set, Nat.add_zero] using S4.out, K5.out⟩
end Go.Proofs.Ytooalgnppnmeaaa
