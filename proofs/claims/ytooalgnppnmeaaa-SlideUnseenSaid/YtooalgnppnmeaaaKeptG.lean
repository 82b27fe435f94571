/- (graph).kept. -/
import Derived.Test.YtooalgnppnmeaaaSlideP
import Derived.Deep.DeepCutAuto
import Derived.Deep.LoopGhost
import Derived.WalkMore
namespace Go.Proofs.Ytooalgnppnmeaaa
open Go.RowKit

def okRoots (ns : List Nd) (roots : List Int) : Bool := roots.all (inR ns)
def RetKeep (w : World) (ns : List Nd) (is roots : List Int) (e : Ending) (w' : World) : Prop :=
  ∃ kv, e = .returned (.tuple #[kv, .bool (okRoots ns roots)]) ∧ (okRoots ns roots = true → w'.ownsRow w.heap.size 4 1 kv ns.length (bools (keepOf ns is roots))) ∧ (okRoots ns roots = false → kv = .slice none 0 0) ∧ Kept No w w'

set_option maxRecDepth 100000 in
set_option maxHeartbeats 4000000 in
theorem kept_any {F G : Nat → Prop} {nv iv v : Value} {avs : List Value} {ns : List Nd} {is roots : List Int} {w : World} (h : GraphO w F nv iv avs ns is) (hs : Sane ns) (hi : IsL ns is) (hlen : ns.length ≤ 4000) (hv : RowR w 1 G v roots.length (ints roots)) (hsz : roots.length ≤ 2000000) :
    Calls Try.prog 73 #[.agg #[nv, iv], v] w (RetKeep w ns is roots) := by
  obtain ⟨An, cn, rfl⟩ := (own_reads h.nodes.row (F := fun _ => True) (fun _ _ => trivial)).slice
  obtain ⟨Ai, ci, rfl⟩ := (own_reads h.is (F := fun _ => True) (fun _ _ => trivial)).slice
  obtain ⟨Av, cv, rfl⟩ := hv.slice
  obtain ⟨W0, hW0⟩ : ∃ W0, w.alloc (.cells #[.slice An ns.length cn, .slice Ai is.length ci] 101) = W0 := ⟨_, rfl⟩
  have k0 : Kept No w W0 := hW0 ▸ (Kept.refl No w).alloc _
  have g0 : W0.heap[w.heap.size]? = some (.cells #[.slice An ns.length cn, .slice Ai is.length ci] 101 (0, 0)) := hW0 ▸ heap_alloc_new w _
  have z0 : W0.heap.size = w.heap.size + 1 := by rw [← hW0]; simp
  have HN := Lib.hid (h.nodes.kept k0 (fun _ _ hn => hn)).all.reads
  have HIs := Lib.hid (own_kept h.is k0 (fun _ _ hn => hn))
  have HV := Lib.hid (hv.keptNo k0)
  have HS := Lib.hid hs
  have HI := Lib.hid hi
  have HIL := Lib.hid hi.len
  obtain ⟨sv, w1, hmk, ⟨A1, c1, rfl⟩, ho1, hg1⟩ := run_make_one (P := Try.prog) (z := .bool false) Try.underlying83 info4 rfl ns.length (by omega) (by omega) W0
  have k1 : Kept No W0 w1 := Kept.of_grown hg1 (by simp)
  have O1 := Lib.hid ho1
  have K1 := Lib.hid k1
  have K0 := Lib.hid k0
  have G0 := Lib.hid g0
  have c00 : W0.cell? ⟨w.heap.size, 0, none⟩ = some (.slice An ns.length cn) := by rw [cell_of_row _ _ _ _ _ _ g0]; rfl
  have hlt0 : w.heap.size < W0.heap.size := by omega
  clear h hv hs hi ho1 hg1 k1 k0 g0 z0
  go_enter Try.func73, Try.ntmps73
  go_wp2_with fail
  go_step3
  go_wp2_with fail
  clear hmk c00 hW0
  have D0 : Hid (DfsMem W0 w1 (.slice A1 ns.length c1) (.slice none 0 0) ns.length (List.replicate ns.length false) (([] : List Int).map (at0 is))) :=
    ⟨by simpa [bools] using O1.out, World.ownsRow_nil _ _ _ _, K1.out⟩
  obtain ⟨N, hN⟩ : ∃ N, w.heap.size = N := ⟨_, rfl⟩
  rw [hN] at G0 hlt0 ⊢
  clear O1 K1
  go_loopw [7, 19] (fun t7 t19 wr => ∃ k : Nat, k ≤ roots.length ∧ t19 = .int .i64 k ∧ Hid (DfsMem W0 wr (.slice A1 ns.length c1) t7 ns.length (List.replicate ns.length false) ((roots.take k).map (at0 is))) ∧ Hid (∀ r ∈ roots.take k, inR ns r = true)) (fun _ t19 _ => roots.length - (intOf t19).toNat)
  case atStart => exact ⟨0, by omega, rfl, D0, by show ∀ r ∈ _, _; simp⟩
  case round =>
    obtain ⟨k, hk, rfl, HD, HR⟩ := hrel
    have hlk : ((roots.take k).map (at0 is)).length = k := by rw [List.length_map, List.length_take]; omega
    have htd := HD.out.todo
    rw [hlk] at htd
    obtain ⟨At, ct, rfl⟩ := (own_reads htd (F := fun _ => True) (fun _ _ => trivial)).slice
    have gN := HD.out.kept.blk G0.out (fun hn => hn)
    have b0 : wr.cell? ⟨N, 0, none⟩ = some (.slice An ns.length cn) := by rw [cell_of_row _ _ _ _ _ _ gN]; rfl
    have b1 : wr.cell? ⟨N, 1, none⟩ = some (.slice Ai is.length ci) := by rw [cell_of_row _ _ _ _ _ _ gN]; rfl
    clear gN htd
    by_cases hlt : k < roots.length
    · have hx : roots[k]? = some roots[k] := List.getElem?_eq_getElem hlt
      have htk : roots.take (k + 1) = roots.take k ++ [roots[k]] := by rw [List.take_add_one, hx]; rfl
      obtain ⟨_, A', cv', he, hcc, hrd⟩ := HV.out.keptNo HD.out.kept
      injection he with hA _ hc
      obtain ⟨bv, ov, hAv, _, _, hcell⟩ := hrd (by omega)
      have hcl := hcell k (.int .i64 roots[k]) (by rw [ints_get, hx]; rfl)
      subst hA hc hAv
      generalize roots[k] = r at *
      clear hcell hrd
      cases hr : inR ns r with
      | false =>
        have hok : okRoots ns roots = false := by
          unfold okRoots
          rw [List.all_eq_false]
          exact ⟨r, List.mem_of_getElem? hx, by rw [hr]; simp⟩
        have hfin : Hid (RetKeep w ns is roots (.returned (.tuple #[.slice none 0 0, .bool false])) wr) :=
          ⟨.slice none 0 0, by rw [hok], fun h => (by rw [hok] at h; cases h), fun _ => rfl, K0.out.thenNo HD.out.kept⟩
        have hri := inR_false.1 hr
        clear hx htk hok hr
        by_cases hr0 : r < 0
        · clear hri
          go_wp2_with fail
          try rw [Exit.noGoto_ret]
          go_ret2
          exact hfin.out
        · have hr1 : (ns.length : Int) ≤ r := by omega
          have hr2 : 0 ≤ r := by omega
          clear hri hr0
          go_wp2_with fail
          try rw [Exit.noGoto_ret]
          go_ret2
          exact hfin.out
      | true =>
        obtain ⟨hr0, hr1⟩ := inR_iff.1 hr
        have hrl : r.toNat < is.length := by rw [HIL.out]; omega
        obtain ⟨gi, ci', u, he, hu, hcu, _, _, _⟩ := own_get (own_kept HIs.out HD.out.kept (fun _ _ hn => hn)) hrl
        injection he with he _ hc
        subst he hc
        have hu2 : u = .int .i64 (at0 is r) := by
          rw [ints_get, at0_get hrl] at hu
          simpa using hu.symm
        subst hu2
        obtain ⟨g4, c4, w4, happ, ho4, k4, _⟩ := int_push HD.out.todo HD.out.kept.size (at0 is r) (by rw [hlk]; omega)
        rw [hlk] at happ
        have D4 : Hid (DfsMem W0 w4 (.slice A1 ns.length c1) (.slice (some ⟨g4, 0, none⟩) (k + 1) c4) ns.length (List.replicate ns.length false) ((roots.take (k + 1)).map (at0 is))) := by
          refine ⟨own_kept HD.out.seen k4 (fun i hi e => own_ne HD.out.todo HD.out.seen (by decide) i e hi), ?_, HD.out.kept.trans k4 (fun i hlt hi => by have := (HD.out.todo.lt i hi).1; omega)⟩
          rw [hlk] at ho4
          rw [htk, List.map_append]
          exact ho4
        have HR4 : Hid (∀ r ∈ roots.take (k + 1), inR ns r = true) := by
          show ∀ r ∈ _, _
          rw [htk]
          intro y hy
          rcases List.mem_append.1 hy with hy | hy
          · exact HR.out y hy
          · have : y = r := by simpa using hy
            rw [this]; exact hr
        clear ho4 k4 hu hr hx htk hlk
        go_wp2_with (at_builtin; refine wpList_append_run rfl (.tmp 32) (.tmp 38) 22 rfl rfl rfl happ ?_; clear happ)
        go_roundw
        case rel => exact ⟨k + 1, by omega, by go_num, D4, HR4⟩
        case measure => (simp [intOf]; try omega)
    · have hke : k = roots.length := by omega
      subst hke
      rw [List.take_length] at HD HR
      have hok : okRoots ns roots = true := by unfold okRoots; rw [List.all_eq_true]; exact HR.out
      have hst : Hid (∀ f ∈ roots.map (at0 is), 0 ≤ f ∧ f < ns.length) := by
        show ∀ f ∈ _, _
        intro f hf
        obtain ⟨r, hr, rfl⟩ := List.mem_map.1 hf
        exact inR_iff.1 (HI.out.inR (HR.out r hr))
      have P0 : Hid (Dfs ns.length (nextI ns is) (roots.map (at0 is)) (List.replicate ns.length false) (roots.map (at0 is))) := Dfs.begin hst.out
      have HOK := Lib.hid hok
      have hml : (roots.map (at0 is)).length = roots.length := List.length_map _
      clear hok hlk D0 b0 b1
      go_wp2_with fail
      go_step3
      go_wp2_with fail
      go_loopg [7] (dfsMu (List.replicate ns.length false) (roots.map (at0 is))) (fun gk t7 wx => ∃ seen todo, gk = dfsMu seen todo ∧ dfsMu seen todo ≤ 2040000 ∧ Hid (DfsMem W0 wx (.slice A1 ns.length c1) t7 ns.length seen todo) ∧ Hid (Dfs ns.length (nextI ns is) (roots.map (at0 is)) seen todo))
      case atStart => exact ⟨_, _, rfl, by have := dfsMu_begin ns.length roots.length (roots.map (at0 is)) (Nat.le_of_eq hml); omega, HD, P0⟩
      case round =>
        clear HD P0
        obtain ⟨seen, todo, hgk, hmu, HD, HP⟩ := hrel
        have htl0 := dfsMu_todo seen todo
        have HGK := Lib.hid hgk
        have gN := HD.out.kept.blk G0.out (fun hn => hn)
        have b0 : wr.cell? ⟨N, 0, none⟩ = some (.slice An ns.length cn) := by rw [cell_of_row _ _ _ _ _ _ gN]; rfl
        have b1 : wr.cell? ⟨N, 1, none⟩ = some (.slice Ai is.length ci) := by rw [cell_of_row _ _ _ _ _ _ gN]; rfl
        clear hgk gN
        rcases List.eq_nil_or_concat todo with rfl | ⟨tl, x, rfl⟩
        · have hfin : Hid (RetKeep w ns is roots (.returned (.tuple #[.slice A1 ns.length c1, .bool true])) wr) := by
            have hk : seen = keepOf ns is roots := keepOf_unique HP.out.len (fun x hx => by
              rw [HP.out.done hst.out (fun y d _ hd => nextI_in' HS.out HI.out y d hd) x hx]; rfl)
            refine ⟨.slice A1 ns.length c1, by rw [HOK.out], fun _ => ?_, fun h => (by rw [HOK.out] at h; cases h), K0.out.thenNo HD.out.kept⟩
            rw [← hk]
            exact own_base HD.out.seen (fun k hk => by have := (HD.out.seen.lt k hk).1; have := K0.out.size; omega)
          obtain ⟨A2, c2, rfl⟩ := (own_reads HD.out.todo (F := fun _ => True) (fun _ _ => trivial)).slice
          go_wp2_with fail
          try rw [Exit.noGoto_ret]
          go_ret2
          exact hfin.out
        · rw [List.concat_eq_append] at HGK HD HP hmu htl0
          have htl5 : tl.length + 1 ≤ 2040000 := by simp at htl0; omega
          have HM := Lib.hid hmu
          clear htl0 hmu
          obtain ⟨g, c2, rfl, hc2, hcell, htl, hgb⟩ := stack_top HD.out.todo
          obtain ⟨⟨hx0, hx1⟩, _⟩ := HP.out.ok x (by simp)
          have HT := Lib.hid htl
          clear htl
          have hxl : x.toNat < ns.length := by omega
          obtain ⟨gs, cs, u, he, hu, hcu, hfu, _, _⟩ := own_get HD.out.seen hxl
          injection he with he _ hc
          subst he hc
          have hu2 : u = .bool (sees seen x) := by
            rw [bools_get, List.getElem?_eq_getElem (by rw [HP.out.len]; omega)] at hu
            simp only [Option.map_some, Option.some.injEq] at hu
            rw [← hu]
            simp [sees, List.getD, List.getElem?_eq_getElem (show x.toNat < seen.length by rw [HP.out.len]; omega)]
          subst hu2
          clear hu
          cases hse : sees seen x with
          | true =>
            rw [hse] at hcu
            have HP2 := Lib.hid (HP.out.popSeen hse)
            clear hse
            go_wp2_with fail
            go_roundg (dfsMu seen tl)
            case measure => rw [HGK.out]; exact dfsMu_seen
            case rel => exact ⟨seen, tl, rfl, by have := HM.out; have := @dfsMu_seen seen tl x; omega, ⟨HD.out.seen, HT.out, HD.out.kept⟩, HP2⟩
          | false =>
            rw [hse] at hcu
            obtain ⟨n, hn1, hn2⟩ := ndAt_of (inR_iff.2 ⟨hx0, hx1⟩)
            obtain ⟨st1, st2⟩ := HD.out.seen.stored x.toNat (.bool true)
            rw [bools_set] at st1
            have kW : Kept No W0 (wr.setCell ⟨gs, x.toNat, none⟩ (.bool true)) := HD.out.kept.grown st2 (fun k hk hlt => by injection hk with hk; subst hk; have := (HD.out.seen.lt gs rfl).1; omega)
            have tW := own_kept HT.out (Kept.of_grown st2 (fun k hk _ => hk)) (fun k hk e => own_ne HT.out HD.out.seen (by decide) k hk (by rw [← e]; simp [Value.ownBlock]))
            obtain ⟨bn, on, cn', av, he, _, hbn, _, m1', _, _, _, hrow⟩ := HN.out.at_ hn2
            have m1 := (kW.cell (p := ⟨bn, on + x.toNat * 5 + 1, none⟩) hbn (fun hn => hn)).trans m1'
            clear m1'
            injection he with he _ hc
            subst he hc
            obtain ⟨Aa, ca, rfl⟩ := hrow.slice
            have gN2 := kW.blk G0.out (fun hn => hn)
            have e0 : (wr.setCell ⟨gs, x.toNat, none⟩ (.bool true)).cell? ⟨N, 0, none⟩ = some (.slice (some ⟨bn, on, none⟩) ns.length cn) := by rw [cell_of_row _ _ _ _ _ _ gN2]; rfl
            have h6 := HS.out.few n (List.mem_of_getElem? hn2)
            have hnx : nextI ns is x = n.args.map (at0 is) := by simp [nextI, hn1]
            have step : Hid (Dfs ns.length (nextI ns is) (roots.map (at0 is)) (seen.set x.toNat true) (tl ++ n.args.map (at0 is)) ∧ dfsMu (seen.set x.toNat true) (tl ++ n.args.map (at0 is)) < dfsMu seen (tl ++ [x])) :=
              ⟨HP.out.popNew (fun d => by rw [hnx]) (fun d hd => nextI_in' HS.out HI.out x d hd), dfsMu_new (by rw [HP.out.len]; exact ⟨hx0, hx1⟩) hse (by simp; omega)⟩
            have HAg := Lib.hid (fun (y : Int) (hy : y ∈ n.args) => HS.out.arg (List.mem_of_getElem? hn2) hy)
            have ST := Lib.hid st1
            have TW := Lib.hid tW
            have KW := Lib.hid kW
            have HR2 := Lib.hid hrow
            clear hse hn1 hn2 st1 st2 kW tW hrow gN2 hnx
            go_wp2_with fail
            have DI : Hid (DfsMem W0 (wr.setCell ⟨gs, x.toNat, none⟩ (.bool true)) (.slice (some ⟨gs, 0, none⟩) ns.length c1) (.slice (some ⟨g, 0, none⟩) tl.length c2) ns.length (seen.set x.toNat true) (tl ++ (n.args.take 0).map (at0 is))) :=
              ⟨ST.out, by simpa using TW.out, KW.out⟩
            generalize wr.setCell ⟨gs, x.toNat, none⟩ (.bool true) = W5 at *
            clear HD ST TW hcell hcu hfu m1 b0 b1 e0 HP HT KW
            go_loopw [7, 69] (fun t7 t69 wy => ∃ k : Nat, k ≤ n.args.length ∧ t69 = .int .i64 k ∧ Hid (DfsMem W0 wy (.slice (some ⟨gs, 0, none⟩) ns.length c1) t7 ns.length (seen.set x.toNat true) (tl ++ (n.args.take k).map (at0 is)))) (fun _ t69 _ => n.args.length - (intOf t69).toNat)
            case atStart => exact ⟨0, by omega, rfl, DI⟩
            case round =>
              clear DI
              obtain ⟨k, hk2, rfl, HD⟩ := hrel
              have hlk : (tl ++ (n.args.take k).map (at0 is)).length = tl.length + k := by rw [List.length_append, List.length_map, List.length_take]; omega
              have htd := HD.out.todo
              rw [hlk] at htd
              obtain ⟨At2, ct2, rfl⟩ := (own_reads htd (F := fun _ => True) (fun _ _ => trivial)).slice
              by_cases hlt2 : k < n.args.length
              · have hx : n.args[k]? = some n.args[k] := List.getElem?_eq_getElem hlt2
                have htk : n.args.take (k + 1) = n.args.take k ++ [n.args[k]] := by rw [List.take_add_one, hx]; rfl
                have hyr := inR_iff.1 (HAg.out _ (List.mem_of_getElem? hx))
                obtain ⟨_, A', cv', he, hcc, hrd⟩ := HR2.out.keptNo HD.out.kept
                injection he with hA' _ hc
                obtain ⟨bv, ov, hAv, _, _, hcell⟩ := hrd (by omega)
                have hcl := hcell k (.int .i64 n.args[k]) (by rw [ints_get, hx]; rfl)
                subst hA' hc hAv
                generalize n.args[k] = y at *
                clear hcell hrd hx htd
                obtain ⟨hy0, hy1⟩ := hyr
                have hyl : y.toNat < is.length := by rw [HIL.out]; omega
                obtain ⟨gi, ci', u, he, hu, hcu, _, _, _⟩ := own_get (own_kept HIs.out HD.out.kept (fun _ _ hn => hn)) hyl
                injection he with he _ hc
                subst he hc
                have hu2 : u = .int .i64 (at0 is y) := by
                  rw [ints_get, at0_get hyl] at hu
                  simpa using hu.symm
                subst hu2
                have gN := HD.out.kept.blk G0.out (fun hn => hn)
                have b1 : wr.cell? ⟨N, 1, none⟩ = some (.slice (some ⟨gi, 0, none⟩) is.length ci) := by rw [cell_of_row _ _ _ _ _ _ gN]; rfl
                obtain ⟨g4, c4, w4, happ, ho4, k4, _⟩ := int_push HD.out.todo HD.out.kept.size (at0 is y) (by rw [hlk]; omega)
                rw [hlk] at happ ho4
                have D4 : Hid (DfsMem W0 w4 (.slice (some ⟨gs, 0, none⟩) ns.length c1) (.slice (some ⟨g4, 0, none⟩) (tl.length + k + 1) c4) ns.length (seen.set x.toNat true) (tl ++ (n.args.take (k + 1)).map (at0 is))) := by
                  refine ⟨own_kept HD.out.seen k4 (fun i hi e => own_ne HD.out.todo HD.out.seen (by decide) i e hi), ?_, HD.out.kept.trans k4 (fun i hlt hi => by have := (HD.out.todo.lt i hi).1; omega)⟩
                  rw [htk, List.map_append, ← List.append_assoc]
                  exact ho4
                clear ho4 k4 hu htk hlk gN
                go_wp2_with (at_builtin; refine wpList_append_run rfl (.tmp 73) (.tmp 79) 22 rfl rfl rfl happ ?_; clear happ)
                go_roundw
                case rel => exact ⟨k + 1, by omega, by go_num, D4⟩
                case measure => (simp [intOf]; try omega)
              · have hke : k = n.args.length := by omega
                subst hke
                rw [List.take_length] at HD
                rw [List.take_length] at hlk
                clear htd
                go_wp2_with fail
                go_roundg (dfsMu (seen.set x.toNat true) (tl ++ n.args.map (at0 is)))
                case measure => rw [HGK.out]; exact step.out.2
                case rel => exact ⟨_, _, rfl, by have := HM.out; have := step.out.2; omega, HD, step.out.1⟩
end Go.Proofs.Ytooalgnppnmeaaa
