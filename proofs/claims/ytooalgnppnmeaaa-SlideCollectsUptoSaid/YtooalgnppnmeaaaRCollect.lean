/- The document's To and Collect. -/
import Derived.Test.YtooalgnppnmeaaaRLive
import Derived.Test.YtooalgnppnmeaaaCollect
import Derived.BigQuiet
import Derived.BigRegion
namespace Go.Proofs.Ytooalgnppnmeaaa
open Go.RowKit

set_option maxRecDepth 100000 in
set_option maxHeartbeats 1000000 in
theorem to_any {F G : Nat → Prop} {hb : Nat} {room : Int} {v : Value} {ns : List Nd} {lv : List Int} {w : World} (h : RHeapO w F hb room ns) (hA : Acyc ns) (hv : RowR w 1 G v lv.length (ints lv)) (hsz : lv.length ≤ 4000) (a b : Int) (hab : Is ns a b) (i : Nat) (hi : lv[i]? = some b) (hn : ∀ j, j < i → ∀ c, lv[j]? = some c → c ≠ b) :
    Calls Try.prog 76 #[.pointer (some ⟨hb, 0, none⟩), v, .int .i64 a] w (fun e w' => e = .returned (.int .i64 (i : Int)) ∧ w = w') := by
  obtain ⟨Av, cv, rfl⟩ := hv.slice
  have H := Lib.hid h
  have HA := Lib.hid hA
  have HV := Lib.hid hv
  have HAB := Lib.hid hab
  have HI := Lib.hid hi
  have HN := Lib.hid hn
  have hil := (List.getElem?_eq_some_iff.1 hi).1
  clear h hA hv hab hi hn
  go_enter Try.func76, Try.ntmps76
  go_wp2_with fail
  refine (rresolve_yes H.out HA.out a b HAB.out).mono ?_
  rintro e w1 ⟨rfl, rfl⟩
  go_wp2_with fail
  go_loopw [9] (fun t9 wr => ∃ k : Nat, k ≤ i ∧ t9 = .int .i64 k ∧ wr = w) (fun t9 _ => i - (intOf t9).toNat)
  case atStart => exact ⟨0, by omega, rfl, rfl⟩
  case round =>
    obtain ⟨k, hk, rfl, rfl⟩ := hrel
    have hkl : k < lv.length := by omega
    have hx : lv[k]? = some lv[k] := List.getElem?_eq_getElem hkl
    obtain ⟨_, A', cv', he, hcc, hrd⟩ := HV.out
    injection he with hA' _ hc
    obtain ⟨bv, ov, hAv, _, _, hcell⟩ := hrd (by omega)
    have hcl := hcell k (.int .i64 lv[k]) (by rw [ints_get, hx]; rfl)
    subst hA' hc hAv
    clear hcell hrd
    by_cases hlt : k < i
    · have hne := HN.out k hlt _ hx
      generalize lv[k] = y at *
      have hne2 : (y == b) = false := by simpa using hne
      clear hx hne
      go_wp2_with fail
      go_roundw
      case rel => exact ⟨k + 1, by omega, by go_num, trivial⟩
      case measure => (simp [intOf]; try omega)
    · have hke : k = i := by omega
      subst hke
      have hy : lv[k] = b := by have := HI.out; rw [hx] at this; simpa using this
      rw [hy] at hcl
      clear hx hy
      go_wp2_with fail
      go_ret
      exact ⟨rfl, rfl⟩

def RRetCollect (w : World) (F : Nat → Prop) (hb : Nat) (room : Int) (ns : List Nd) (is roots : List Int) (e : Ending) (w' : World) : Prop :=
  (okRoots ns roots = false → e = .returned (.tuple #[.slice none 0 0, .int .i64 0, .int .i64 120]) ∧ Kept No w w') ∧
  (okRoots ns roots = true → ∃ v, e = .returned (.tuple #[v, .int .i64 ((ns.length : Int) - (slideOf ns is roots).length), .int .i64 0]) ∧ RHeapO w' (Grow F w w') hb room (slideOf ns is roots) ∧
    RowR w' 1 (fun _ => True) v roots.length (ints (toOf ns is roots)) ∧ Kept F w w')
theorem live_at {keep : List Bool} {n : Nat} {y : Int} (hy : 0 ≤ y ∧ y < n) (hs : sees keep y = true) : ∃ i : Nat, rankK keep y = i ∧ (liveUp keep n)[i]? = some y ∧ ∀ j, j < i → ∀ c, (liveUp keep n)[j]? = some c → c ≠ y := by
  have h := liveUp_rank (keep := keep) (k := n) (y := y.toNat) (by omega) (by rw [Int.toNat_of_nonneg hy.1]; exact hs)
  rw [Int.toNat_of_nonneg hy.1] at h
  refine ⟨_, rfl, h, fun j hj c hc e => ?_⟩
  subst e
  have h1 := liveUp_rank' hc
  have h2 := liveUp_rank' h
  omega

set_option maxRecDepth 100000 in
set_option maxHeartbeats 4000000 in
theorem rcollect_any {F G : Nat → Prop} {hb : Nat} {room : Int} {v : Value} {ns : List Nd} {is roots : List Int} {w : World} (h : RHeapO w F hb room ns) (hB : Bnd F w) (hg : Good room ns) (hroom : room ≤ 4000) (hi : IsL ns is) (hv : RowR w 1 G v roots.length (ints roots)) (hsz : roots.length ≤ 2000000) :
    Calls Try.prog 47 #[.pointer (some ⟨hb, 0, none⟩), v] w (RRetCollect w F hb room ns is roots) := by
  obtain ⟨Av, cv, rfl⟩ := hv.slice
  have hlen : ns.length ≤ 4000 := by have := hg.len; omega
  have H := Lib.hid h
  have HGd := Lib.hid hg
  have HI := Lib.hid hi
  have HV := Lib.hid hv
  have HBn := Lib.hid hB
  clear h hB hg hi hv
  go_enter Try.func47, Try.ntmps47
  go_wp2_with fail
  refine (rlive_any H.out HGd.out.sane hlen HI.out HV.out hsz).mono ?_
  rintro e w1 ⟨lvv, rfl, o1, k1⟩
  cases hok : okRoots ns roots with
  | false =>
    have he : errOf ns roots = 120 := by simp [errOf, hok]
    have hfin : Hid (RRetCollect w F hb room ns is roots (.returned (.tuple #[.slice none 0 0, .int .i64 0, .int .i64 120])) w1) :=
      ⟨fun _ => ⟨rfl, k1⟩, fun h => by rw [hok] at h; cases h⟩
    rw [he]
    clear o1 k1 hok he
    go_wp2_with fail
    go_ret3
    exact hfin.out
  | true =>
    have he : errOf ns roots = 0 := by simp [errOf, hok]
    rw [he]
    have HOK := Lib.hid hok
    have hkeep := keepOk_of HGd.out.sane HI.out hok
    have e1 : liveOf ns is roots = liveUp (keepOf ns is roots) ns.length := by unfold liveOf liveK; rw [if_pos hok, keepOf_length]
    rw [e1] at o1
    have es : slideOf ns is roots = slideAll ns (keepOf ns is roots) is := rfl
    have et : toOf ns is roots = roots.map fun r => rankK (keepOf ns is roots) (at0 is r) := rfl
    have hroots : Hid (∀ r ∈ roots, sees (keepOf ns is roots) (at0 is r) = true) := fun r hr =>
      (keepOf_sees (inR_iff.1 (HI.out.inR (List.all_eq_true.1 hok r hr)))).2 ⟨_, List.mem_map.2 ⟨r, hr, rfl⟩, .refl _⟩
    have ES := Lib.hid es
    have ET := Lib.hid et
    clear e1 he hok es et
    generalize keepOf ns is roots = keep at *
    have HKe := Lib.hid hkeep
    have hll := liveUp_le keep ns.length
    obtain ⟨A1, c1, rfl⟩ := (own_reads o1 (F := fun _ => True) (fun _ _ => trivial)).slice
    have O1 := Lib.hid (own_reads o1 (F := fun _ => True) (fun _ _ => trivial))
    have K1 := Lib.hid k1
    have hz1 := k1.size
    have hsl : Hid ((slideAll ns keep is).length = (liveUp keep ns.length).length) := slideUp_length _ _ _ _
    have HTo := Lib.hid (fun (W : World) (hW : Kept No w1 W) (a : Int) (ha : inR ns a = true) (hs : sees keep (at0 is a) = true) => by
      obtain ⟨i, h1, h2, h3⟩ := live_at (n := ns.length) (inR_iff.1 (HI.out.inR ha)) hs
      have := to_any (H.out.keptNo (K1.out.thenNo hW)) HGd.out.acyc (O1.out.keptNo hW) (by omega) a _ (HI.out.is ha) i h2 h3
      rw [← h1] at this
      exact this)
    clear o1 k1 hkeep
    go_wp2_with fail
    go_loopw [9, 10] (fun t9 t10 wr => ∃ k : Nat, k ≤ (liveUp keep ns.length).length ∧ t10 = .int .i64 k ∧ Hid (NodesO wr (Fr w1.heap.size) t9 ((slideAll ns keep is).take k)) ∧ Hid (Kept No w1 wr)) (fun _ t10 _ => (liveUp keep ns.length).length - (intOf t10).toNat)
    case atStart => exact ⟨0, by omega, rfl, NodesO.nil _ _, Kept.refl _ _⟩
    case round =>
      obtain ⟨k, hk, rfl, HO, HK⟩ := hrel
      have hlk : ((slideAll ns keep is).take k).length = k := by rw [List.length_take, hsl.out]; omega
      obtain ⟨Ao, co, hao⟩ := HO.out.reads.slice
      rw [hlk] at hao
      subst hao
      by_cases hlt : k < (liveUp keep ns.length).length
      · have hms : k < (slideAll ns keep is).length := by rw [hsl.out]; exact hlt
        obtain ⟨y, n, hy, hn, hse, hm⟩ := slideAll_at (List.getElem?_eq_getElem hms)
        obtain ⟨hn1, hn2⟩ := ndAt_inR hn
        obtain ⟨hy0, hy1⟩ := inR_iff.1 hn1
        have hyn : y.toNat < ns.length := by omega
        have htk : (slideAll ns keep is).take (k + 1) = (slideAll ns keep is).take k ++ [slideNd keep is n] := by
          rw [List.take_add_one, List.getElem?_eq_getElem hms, hm]; rfl
        obtain ⟨_, A', cv', he, hcc, hrd⟩ := O1.out.keptNo HK.out
        injection he with hA' _ hc
        obtain ⟨bv, ov, hAv, _, _, hcell⟩ := hrd (by omega)
        have hcl := hcell k (.int .i64 y) (by rw [ints_get, hy]; rfl)
        subst hA' hc hAv
        obtain ⟨A, c, _, _, _, z1, _, hnn⟩ := (H.out.keptNo (K1.out.thenNo HK.out)).open_
        obtain ⟨b, o, c', av, he, _, _, m0, m1, m2, m3, m4, hrow⟩ := hnn.reads.at_ hn2
        injection he with he _ hc
        subst he hc
        obtain ⟨Aa, ca, rfl⟩ := hrow.slice
        have h6 := HGd.out.sane.few n (List.mem_of_getElem? hn2)
        have HArg := Lib.hid (fun (x : Int) (hx : x ∈ n.args) => (⟨HGd.out.sane.arg (List.mem_of_getElem? hn2) hx, HKe.out.down y n hn hse x hx⟩ : inR ns x = true ∧ sees keep (at0 is x) = true))
        have HTK := Lib.hid htk
        have HRow := Lib.hid hrow
        clear hcell hrd hnn hrow hn hn1 hn2 hm hse htk hy
        have ka : Kept No wr (wr.alloc (.cells #[.int .i64 0, .slice none 0 0, .int .i64 0, .bool false, .int .i64 0] 32)) := (Kept.refl No wr).alloc _
        have lt : ∀ {p : Addr} {u : Value}, wr.cell? p = some u → (wr.alloc (.cells #[.int .i64 0, .slice none 0 0, .int .i64 0, .bool false, .int .i64 0] 32)).cell? p = some u := fun {p u} hp => (ka.cell (World.block_lt_of_cell? wr _ hp) (fun h => h)).trans hp
        have hcl' := lt hcl
        have z1' := lt z1
        have m0' := lt m0
        have m1' := lt m1
        have m2' := lt m2
        have m3' := lt m3
        have m4' := lt m4
        clear ka lt
        go_wp2_with fail
        go_region
        have hbx : (wr.alloc (.cells #[.int .i64 n.sym, .slice Aa n.args.length ca, .int .i64 n.mark, .bool n.pts, .int .i64 n.to] 32)).drew.heap[wr.heap.size]? = some (.cells #[.int .i64 n.sym, .slice Aa n.args.length ca, .int .i64 n.mark, .bool n.pts, .int .i64 n.to] 32 (0, 0)) := heap_alloc_new wr _
        have k5 : Kept No wr (wr.alloc (.cells #[.int .i64 n.sym, .slice Aa n.args.length ca, .int .i64 n.mark, .bool n.pts, .int .i64 n.to] 32)).drew := ((Kept.refl No wr).alloc _).drew
        have z5 : (wr.alloc (.cells #[.int .i64 n.sym, .slice Aa n.args.length ca, .int .i64 n.mark, .bool n.pts, .int .i64 n.to] 32)).drew.heap.size = wr.heap.size + 1 := by simp
        have HO' : Hid (NodesO wr (fun b => w1.heap.size ≤ b ∧ b < wr.heap.size) (.slice Ao k co) ((slideAll ns keep is).take k)) := HO.out.mono (fun b hb hlt => ⟨hb, hlt⟩)
        obtain ⟨Wr, hWr⟩ : ∃ Wr, Wr = wr := ⟨_, rfl⟩
        subst hWr
        go_wp2_with fail
        generalize (Wr.alloc (.cells #[.int .i64 n.sym, .slice Aa n.args.length ca, .int .i64 n.mark, .bool n.pts, .int .i64 n.to] 32)).drew = W5 at *
        have HBX := Lib.hid hbx
        have K5 := Lib.hid k5
        have HZ5 := Lib.hid z5
        clear hbx k5 z5 hcl' z1' m0' m1' m2' m3' m4' hcl z1 m0 m1 m2 m3 m4 HO
        go_loopw [12, 13] (fun t12 t13 wx => ∃ j : Nat, j ≤ n.args.length ∧ t13 = .int .i64 j ∧ Hid (wx.ownsRow W5.heap.size 3 1 t12 j (ints ((n.args.take j).map fun x => rankK keep (at0 is x)))) ∧ Hid (Kept No W5 wx)) (fun _ t13 _ => n.args.length - (intOf t13).toNat)
        case atStart => exact ⟨0, by omega, rfl, World.ownsRow_nil _ _ _ _, Kept.refl _ _⟩
        case round =>
          obtain ⟨j, hj, rfl, HOJ, HKJ⟩ := hrel
          obtain ⟨At, ct, rfl⟩ := (own_reads HOJ.out (F := fun _ => True) (fun _ _ => trivial)).slice
          have hlj : ((n.args.take j).map fun x => rankK keep (at0 is x)).length = j := by rw [List.length_map, List.length_take]; omega
          have hbx := HKJ.out.blk HBX.out (fun h => h)
          obtain ⟨⟨x0, x1, x2, x3, x4⟩, q0, q1, q2, q3, q4⟩ := cells5 hbx
          have HKr := Lib.hid ((HK.out.thenNo K5.out).thenNo HKJ.out)
          by_cases hlt2 : j < n.args.length
          · have hx : n.args[j]? = some n.args[j] := List.getElem?_eq_getElem hlt2
            have htj : n.args.take (j + 1) = n.args.take j ++ [n.args[j]] := by rw [List.take_add_one, hx]; rfl
            obtain ⟨_, A', cv', he, hcc, hrd⟩ := (HRow.out.keptNo K5.out).keptNo HKJ.out
            injection he with hA' _ hc
            obtain ⟨bv2, ov2, hAv, _, _, hcell⟩ := hrd (by omega)
            have hcl := hcell j (.int .i64 n.args[j]) (by rw [ints_get, hx]; rfl)
            subst hA' hc hAv
            have HA2 := Lib.hid (HArg.out _ (List.mem_of_getElem? hx))
            generalize n.args[j] = a at *
            obtain ⟨g4, c4, w4, happ, ho4, k4, _⟩ := int_push (v := .slice At j ct) (l := (n.args.take j).map fun x => rankK keep (at0 is x)) (by rw [hlj]; exact HOJ.out) HKJ.out.size (rankK keep (at0 is a)) (by rw [hlj]; omega)
            rw [hlj] at happ
            have HO4 : Hid (w4.ownsRow W5.heap.size 3 1 (.slice (some ⟨g4, 0, none⟩) (j + 1) c4) (j + 1) (ints ((n.args.take (j + 1)).map fun x => rankK keep (at0 is x)))) := by
              show World.ownsRow _ _ _ _ _ _ _
              rw [htj, List.map_append]
              rw [List.length_append, hlj] at ho4
              exact ho4
            have HK4 := Lib.hid (HKJ.out.trans k4 (fun i hlt hi => by have := (HOJ.out.lt i hi).1; omega))
            clear ho4 k4 hcell hrd hx htj hlj hbx
            go_wp2_with fail
            refine (HTo.out _ HKr.out a HA2.out.1 HA2.out.2).mono ?_
            rintro e w6 ⟨rfl, rfl⟩
            go_wp2_with (at_builtin; refine wpList_append_run rfl (.tmp 49) (.tmp 58) 22 rfl rfl rfl happ ?_; clear happ)
            go_roundw
            case rel => exact ⟨j + 1, by omega, by go_num, HO4, HK4⟩
            case measure => (simp [intOf]; try omega)
          · have hke : j = n.args.length := by omega
            subst hke
            rw [List.take_length] at HOJ hlj
            have ks : Kept (fun b => b = Wr.heap.size) wr (wr.setCell ⟨Wr.heap.size, 1, none⟩ (.slice At n.args.length ct)) := (Kept.refl (fun b => b = Wr.heap.size) wr).setCell (p := ⟨Wr.heap.size, 1, none⟩) (.inl rfl) _
            have hz5 := HKJ.out.size
            have hz50 := HZ5.out
            have hrowA := own_kept HOJ.out ks (fun b hb e => by have := (HOJ.out.lt b hb).1; omega)
            have hnodes := ((HO'.out.keptNo K5.out).keptNo HKJ.out).kept ks (fun b hb e => by omega)
            have hbs := blk_set hbx 1 (.slice At n.args.length ct)
            obtain ⟨v9, w9, happ, ho9, k9, g9, c9, rfl⟩ := nodes_push hnodes (slideNd keep is n) (.slice At n.args.length ct) (by
              unfold slideNd
              dsimp only
              rw [List.length_map]
              exact own_zero hrowA) (fun b hb hf => by have := (hrowA.lt b hb).1; omega) (by rw [hlk]; omega)
            unfold slideNd at happ
            dsimp only [ndCells] at happ
            rw [hlk] at happ
            have hz9 := k9.size
            have hzs := ks.size
            have hzK := HK.out.size
            have HO9 : Hid (NodesO w9 (Fr w1.heap.size) (.slice (some ⟨g9, 0, none⟩) (k + 1) c9) ((slideAll ns keep is).take (k + 1))) := by
              show NodesO _ _ _ _
              rw [HTK.out]
              have := ho9
              rw [hlk] at this
              refine this.mono (fun b hb _ => ?_)
              unfold Fr
              rcases hb with hb | hb | hb
              · exact hb.1
              · have := (hrowA.lt b hb).1; omega
              · omega
            have hkA : Kept No w1 (wr.setCell ⟨Wr.heap.size, 1, none⟩ (.slice At n.args.length ct)) := HKr.out.setCell (p := ⟨Wr.heap.size, 1, none⟩) (.inr (by dsimp only; omega)) _
            have HK9 : Hid (Kept No w1 w9) := hkA.trans k9 (fun b hlt hb => by
              obtain ⟨_, _, _, hF, _⟩ := hnodes
              have := (hF b hb).1; omega)
            have hzz : (wr.setCell ⟨Wr.heap.size, 1, none⟩ (.slice At n.args.length ct)).heap.size = wr.heap.size := by simp
            rw [hzz] at happ
            have hbs' : (wr.setCell ⟨Wr.heap.size, 1, none⟩ (.slice At n.args.length ct)).heap[Wr.heap.size]? = some (.cells #[.int .i64 n.sym, .slice At n.args.length ct, .int .i64 n.mark, .bool n.pts, .int .i64 n.to] 32 (0, 0)) := by simpa using hbs
            obtain ⟨⟨y0, y1, y2, y3, y4⟩, _⟩ := cells5 hbs'
            clear ks hrowA hnodes hbs hbs' ho9 k9 hkA hbx hlj hzz hz5 hz50 hz9 hzs hzK
            go_wp2_with (at_builtin; refine wpList_append_run rfl (.tmp 62) (.tmp 64) 39 rfl rfl rfl happ ?_; clear happ)
            go_roundw
            case rel => exact ⟨k + 1, by omega, by go_num, HO9, HK9⟩
            case measure => (simp [intOf]; try omega)
      · have hke : k = (liveUp keep ns.length).length := by omega
        subst hke
        have HN : Hid (NodesO wr (Fr w1.heap.size) (.slice Ao (liveUp keep ns.length).length co) (slideAll ns keep is)) := by
          have := HO.out
          rw [← hsl.out, List.take_length] at this
          rw [hsl.out] at this
          exact this
        clear HO hlk
        obtain ⟨Wr, hWr⟩ : ∃ Wr, Wr = wr := ⟨_, rfl⟩
        subst hWr
        go_wp2_with fail
        go_loopw [14, 15] (fun t14 t15 wx => ∃ j : Nat, j ≤ roots.length ∧ t15 = .int .i64 j ∧ Hid (wx.ownsRow Wr.heap.size 3 1 t14 j (ints ((roots.take j).map fun x => rankK keep (at0 is x)))) ∧ Hid (Kept No Wr wx)) (fun _ t15 _ => roots.length - (intOf t15).toNat)
        case atStart => exact ⟨0, by omega, rfl, World.ownsRow_nil _ _ _ _, Kept.refl _ _⟩
        case round =>
          obtain ⟨j, hj, rfl, HOJ, HKJ⟩ := hrel
          obtain ⟨At, ct, rfl⟩ := (own_reads HOJ.out (F := fun _ => True) (fun _ _ => trivial)).slice
          have hlj : ((roots.take j).map fun x => rankK keep (at0 is x)).length = j := by rw [List.length_map, List.length_take]; omega
          have HKr := Lib.hid (HK.out.thenNo HKJ.out)
          by_cases hlt2 : j < roots.length
          · have hx : roots[j]? = some roots[j] := List.getElem?_eq_getElem hlt2
            have htj : roots.take (j + 1) = roots.take j ++ [roots[j]] := by rw [List.take_add_one, hx]; rfl
            obtain ⟨_, A', cv', he, hcc, hrd⟩ := HV.out.keptNo (K1.out.thenNo HKr.out)
            injection he with hA' _ hc
            obtain ⟨bv2, ov2, hAv, _, _, hcell⟩ := hrd (by omega)
            have hcl := hcell j (.int .i64 roots[j]) (by rw [ints_get, hx]; rfl)
            subst hA' hc hAv
            have HA1 := Lib.hid (List.all_eq_true.1 HOK.out _ (List.mem_of_getElem? hx))
            have HA2 := Lib.hid (hroots.out _ (List.mem_of_getElem? hx))
            generalize roots[j] = a at *
            obtain ⟨g4, c4, w4, happ, ho4, k4, _⟩ := int_push (v := .slice At j ct) (l := (roots.take j).map fun x => rankK keep (at0 is x)) (by rw [hlj]; exact HOJ.out) HKJ.out.size (rankK keep (at0 is a)) (by rw [hlj]; omega)
            rw [hlj] at happ
            have HO4 : Hid (w4.ownsRow Wr.heap.size 3 1 (.slice (some ⟨g4, 0, none⟩) (j + 1) c4) (j + 1) (ints ((roots.take (j + 1)).map fun x => rankK keep (at0 is x)))) := by
              show World.ownsRow _ _ _ _ _ _ _
              rw [htj, List.map_append]
              rw [List.length_append, hlj] at ho4
              exact ho4
            have HK4 := Lib.hid (HKJ.out.trans k4 (fun i hlt hi => by have := (HOJ.out.lt i hi).1; omega))
            clear ho4 k4 hcell hrd hx htj hlj
            go_wp2_with fail
            refine (HTo.out _ HKr.out a HA1.out HA2.out).mono ?_
            rintro e w6 ⟨rfl, rfl⟩
            go_wp2_with (at_builtin; refine wpList_append_run rfl (.tmp 72) (.tmp 80) 22 rfl rfl rfl happ ?_; clear happ)
            go_roundw
            case rel => exact ⟨j + 1, by omega, by go_num, HO4, HK4⟩
            case measure => (simp [intOf]; try omega)
          · have hke : j = roots.length := by omega
            subst hke
            rw [List.take_length] at HOJ
            have hKw := K1.out.thenNo HKr.out
            obtain ⟨A, c, hfb, hbl, _, z1, _, _⟩ := (H.out.keptNo hKw).open_
            obtain ⟨⟨u0, p0⟩, p1, p2, hp3, hp4⟩ := rheap_put H.out hKw (v := .slice Ao (liveUp keep ns.length).length co) ((HN.out.keptNo HKJ.out).mono (fun b hb _ => by unfold Fr at *; omega))
            have hown := own_reads (own_kept HOJ.out ((Kept.refl (fun b => b = hb) wr).setCell (p := ⟨hb, 1, none⟩) (.inl rfl) (.slice Ao (liveUp keep ns.length).length co)) (fun b hb2 e => by
              have := (HOJ.out.lt b hb2).1
              have := HBn.out hb (by obtain ⟨_, _, hf0, _⟩ := H.out; exact hf0)
              have := HK.out.size
              omega)) (F := fun _ => True) (fun _ _ => trivial)
            have hfin : Hid (RRetCollect w F hb room ns is roots (.returned (.tuple #[.slice At roots.length ct, .int .i64 ((ns.length : Int) - (liveUp keep ns.length).length), .int .i64 0])) (wr.setCell ⟨hb, 1, none⟩ (.slice Ao (liveUp keep ns.length).length co))) := by
              refine ⟨fun h => by (rw [HOK.out] at h; cases h), fun _ => ⟨.slice At roots.length ct, by rw [ES.out, hsl.out], by rw [ES.out]; exact hp3, by rw [ET.out]; exact hown, hp4⟩⟩
            clear hp3 hp4 hown hKw hlj
            go_wp2_with fail
            go_ret3
            exact hfin.out
end Go.Proofs.Ytooalgnppnmeaaa
