/- slide.Collect. -/
import Derived.Test.YtooalgnppnmeaaaSlideQ
import Derived.Test.YtooalgnppnmeaaaRefill
import Derived.BigQuiet
import Derived.BigRegion
namespace Go.Proofs.Ytooalgnppnmeaaa
open Go.RowKit

theorem refill_good {room : Int} {ns : List Nd} (h : Good room ns) (old : List Nd) : refillP room old ns = (ns, 0) := by
  have := h.len
  unfold refillP
  rw [if_neg (by omega), if_neg (fun h2 => h2 h.may), if_neg (fun h2 => h2 h.acyc)]
/-- Where a root is behind it. -/
noncomputable def toOf (ns : List Nd) (is roots : List Int) : List Int := roots.map fun r => rankK (keepOf ns is roots) (at0 is r)
noncomputable def slideOf (ns : List Nd) (is roots : List Int) : List Nd := slideAll ns (keepOf ns is roots) is
def RetCollect (w : World) (F : Nat → Prop) (hb : Nat) (room : Int) (ns : List Nd) (is roots : List Int) (e : Ending) (w' : World) : Prop :=
  (okRoots ns roots = false → e = .returned (.tuple #[.slice none 0 0, .int .i64 0, .int .i64 120]) ∧ Kept No w w') ∧
  (okRoots ns roots = true → ∃ v m, e = .returned (.tuple #[v, .int .i64 ((ns.length : Int) - (slideOf ns is roots).length), .int .i64 0]) ∧ HeapO w' (fun k => F k ∨ (w.heap.size ≤ k ∧ k < m)) hb room (slideOf ns is roots) ∧
    w'.ownsRow m 3 1 v roots.length (ints (toOf ns is roots)) ∧ w.heap.size ≤ m ∧ m ≤ w'.heap.size ∧ Kept F w w')

set_option maxRecDepth 100000 in
theorem collect_nil (v : Value) (w : World) : Calls Try.prog 46 #[.pointer none, v] w (fun e w' => e = .returned (.tuple #[.slice none 0 0, .int .i64 0, .int .i64 1]) ∧ w = w') := by
  go_enter Try.func46, Try.ntmps46
  go_wp2
  go_ret3
  exact ⟨rfl, rfl⟩

theorem flat_cells {w : World} {base : Nat} {nv : Value} {avs : List Value} {ns : List Nd} (h : w.ownsRow base 32 5 nv ns.length (flat avs ns)) {k : Nat} {a : Value} {n : Nd} (ha : avs[k]? = some a) (hn : ns[k]? = some n) :
    ∃ g c, nv = .slice (some ⟨g, 0, none⟩) ns.length c ∧ w.cell? ⟨g, k * 5, none⟩ = some (.int .i64 n.sym) ∧ w.cell? ⟨g, k * 5 + 1, none⟩ = some a ∧ w.cell? ⟨g, k * 5 + 2, none⟩ = some (.int .i64 n.mark) ∧ w.cell? ⟨g, k * 5 + 3, none⟩ = some (.bool n.pts) ∧ w.cell? ⟨g, k * 5 + 4, none⟩ = some (.int .i64 n.to) := by
  have hlt := (List.getElem?_eq_some_iff.1 hn).1
  obtain ⟨g, c, rfl, hg, hgl⟩ := h.form (by omega)
  have hcells : ∀ j u, j < 5 → (ndCells a n)[j]? = some u → w.cell? ⟨g, k * 5 + j, none⟩ = some u := fun j u hj hu => by
    rw [h.cellAt (k * 5 + j) (by omega), flat_get avs ns k _ _ ha hn j hj]
    exact hu
  exact ⟨g, c, rfl, by simpa using hcells 0 _ (by omega) rfl, hcells 1 _ (by omega) rfl, hcells 2 _ (by omega) rfl, hcells 3 _ (by omega) rfl, hcells 4 _ (by omega) rfl⟩
/-- The blocks of the nodes' arguments. -/
def AvF (avs : List Value) : Nat → Prop := fun b => ∃ a ∈ avs, a.ownBlock = some b
/-- Those of the first k, and what is new. -/
def OutF (m : Nat) (avs : List Value) (k : Nat) : Nat → Prop := fun b => m ≤ b ∨ ∃ i a, i < k ∧ avs[i]? = some a ∧ a.ownBlock = some b

set_option maxRecDepth 100000 in
set_option maxHeartbeats 4000000 in
theorem collect_any {F G : Nat → Prop} {hb : Nat} {room : Int} {v : Value} {ns : List Nd} {is roots : List Int} {w : World} (h : HeapO w F hb room ns) (hB : Bnd F w) (hg : Good room ns) (hroom : room ≤ 4000) (hi : IsL ns is) (hv : RowR w 1 G v roots.length (ints roots)) (hd : ∀ k, G k → ¬ F k) (hsz : roots.length ≤ 2000000) :
    Calls Try.prog 46 #[.pointer (some ⟨hb, 0, none⟩), v] w (RetCollect w F hb room ns is roots) := by
  obtain ⟨Av, cv, rfl⟩ := hv.slice
  have hlen : ns.length ≤ 4000 := by have := hg.len; omega
  have HR := Lib.hid (read_any h hg.sane hg.acyc hlen hi)
  have H := Lib.hid h
  have HGd := Lib.hid hg
  have HI := Lib.hid hi
  have HV := Lib.hid hv
  have HBn := Lib.hid hB
  have HD := Lib.hid hd
  clear h hB hg hi hv hd
  go_enter Try.func46, Try.ntmps46
  go_wp2_with fail
  refine HR.out.mono ?_
  rintro e w1 ⟨nv, iv, avs, rfl, hg, k1⟩
  obtain ⟨An, cn, rfl⟩ := (own_reads hg.nodes.row (F := fun _ => True) (fun _ _ => trivial)).slice
  obtain ⟨Ai, ci, rfl⟩ := (own_reads hg.is (F := fun _ => True) (fun _ _ => trivial)).slice
  have hz1 := k1.size
  have hkb : Kept No w1 (w1.alloc (.cells #[.slice An ns.length cn, .slice Ai is.length ci] 101)) := (Kept.refl No w1).alloc _
  have hgb : GraphO (w1.alloc (.cells #[.slice An ns.length cn, .slice Ai is.length ci] 101)) (fun k => w.heap.size ≤ k ∧ k < w1.heap.size) (.slice An ns.length cn) (.slice Ai is.length ci) avs ns is :=
    ⟨⟨hg.nodes.len, own_kept hg.nodes.row hkb (fun _ _ hn => hn), fun k hk => ⟨hg.nodes.blk k hk, (hg.nodes.row.lt k hk).2⟩, hg.nodes.apart, fun i a n ha hn => ⟨own_kept (hg.nodes.arg i a n ha hn).1 hkb (fun _ _ hn => hn), fun k hk => ⟨(hg.nodes.arg i a n ha hn).2 k hk, ((hg.nodes.arg i a n ha hn).1.lt k hk).2⟩⟩⟩,
      own_kept hg.is hkb (fun _ _ hn => hn), fun k hk => ⟨hg.isF k hk, (hg.is.lt k hk).2⟩, hg.sep⟩
  have HG := Lib.hid hgb
  have HBX := Lib.hid (heap_alloc_new w1 (.cells #[.slice An ns.length cn, .slice Ai is.length ci] 101))
  have KB := Lib.hid (k1.thenNo hkb)
  have hzb : (w1.alloc (.cells #[.slice An ns.length cn, .slice Ai is.length ci] 101)).heap.size = w1.heap.size + 1 := by simp
  have HZ := Lib.hid hzb
  clear hg k1 hkb hgb hzb
  go_wp2_with fail
  refine (kept_any HG.out HGd.out.sane HI.out hlen (HV.out.keptNo KB.out) hsz).mono ?_
  generalize w1.alloc (.cells #[.slice An ns.length cn, .slice Ai is.length ci] 101) = WB at *
  generalize w1.heap.size = M at *
  clear HR
  rintro e w2 ⟨kv, rfl, hk, hk0, k2⟩
  have K2 := Lib.hid (KB.out.thenNo k2)
  have hz2 := k2.size
  cases hok : okRoots ns roots with
  | false =>
    have := hk0 hok
    subst this
    have hfin : Hid (RetCollect w F hb room ns is roots (.returned (.tuple #[.slice none 0 0, .int .i64 0, .int .i64 120])) w2) :=
      ⟨fun _ => ⟨rfl, K2.out⟩, fun h => by rw [hok] at h; cases h⟩
    clear hk hk0 hok k2 K2 HG HBX HZ
    go_wp2_with fail
    go_ret3
    exact hfin.out
  | true =>
    have hko := hk hok
    have HOK := Lib.hid hok
    obtain ⟨keep, hkp⟩ : ∃ keep, keep = keepOf ns is roots := ⟨_, rfl⟩
    have hkl : keep.length = ns.length := by rw [hkp, keepOf_length]
    rw [← hkp] at hko
    have HKP := Lib.hid hkp
    obtain ⟨Ak, ck, rfl⟩ := (own_reads hko (F := fun _ => True) (fun _ _ => trivial)).slice
    obtain ⟨tv, w3, hmk, ⟨A1, c1, rfl⟩, ho1, hg1⟩ := run_make_one (P := Try.prog) (z := .int .i64 0) Try.underlying22 info3 rfl ns.length (by omega) (by omega) w2
    have k3 : Kept No w2 w3 := Kept.of_grown hg1 (by simp)
    have k23 := k2.thenNo k3
    have HN3 := Lib.hid (HG.out.nodes.kept k23 (fun _ _ hn => hn))
    have HI3 := Lib.hid (own_kept HG.out.is k23 (fun _ _ hn => hn))
    have HIF := Lib.hid HG.out.isF
    have HSep := Lib.hid HG.out.sep
    have HB3 := Lib.hid (k23.blk HBX.out (fun hn => hn))
    have HK3 := Lib.hid (own_kept hko k3 (fun _ _ hn => hn))
    have HT3 : Hid (w3.ownsRow w2.heap.size 3 1 (.slice A1 ns.length c1) ns.length (ints (fillUp (fun i => rankK keep (i : Int)) ns.length 0))) := by
      show World.ownsRow _ _ _ _ _ _ _
      rw [fillUp_zero]
      simpa [ints] using ho1
    have K3 := Lib.hid (K2.out.thenNo k3)
    have g2 := k2.blk HBX.out (fun hn => hn)
    have c20 : w2.cell? ⟨M, 0, none⟩ = some (.slice An ns.length cn) := by rw [cell_of_row _ _ _ _ _ _ g2]; rfl
    have hMw : M < w2.heap.size := (Array.getElem?_eq_some_iff.1 g2).1
    clear hk hk0 hok k2 hko hkp HG HBX k23 k3 ho1 hg1 g2 K2
    go_wp2_with fail
    clear hmk c20
    go_loopw [11, 40] (fun t11 t40 wr => ∃ k : Nat, k ≤ ns.length ∧ t40 = .int .i64 k ∧ t11 = .int .i64 (liveUp keep k).length ∧ Hid (wr.ownsRow w2.heap.size 3 1 (.slice A1 ns.length c1) ns.length (ints (fillUp (fun i => rankK keep (i : Int)) ns.length k))) ∧ Hid (Kept (Its (.slice A1 ns.length c1)) w3 wr)) (fun _ t40 _ => ns.length - (intOf t40).toNat)
    case atStart => exact ⟨0, by omega, rfl, rfl, HT3, Kept.refl _ _⟩
    case round =>
      obtain ⟨k, hk, rfl, rfl, HT, HK⟩ := hrel
      have hll := liveUp_le keep k
      have hsu := liveUp_succ keep k
      have HKr := Lib.hid (own_kept HK3.out HK.out (fun i hi e => own_ne HK3.out HT3.out (by decide) i hi e))
      by_cases hlt : k < ns.length
      · obtain ⟨gk, ck', he, hcu⟩ := sees_row HKr.out hkl (x := (k : Int)) ⟨by omega, by omega⟩
        injection he with he _ hc
        subst he hc
        simp only [Int.toNat_natCast] at hcu
        obtain ⟨gt, ct, _, he, _, hct, hft, _, _⟩ := own_get HT.out hlt
        injection he with he _ hc
        subst he hc
        obtain ⟨st1, st2⟩ := HT.out.stored k (.int .i64 (rankK keep (k : Int)))
        rw [ints_set, fillUp_set (fun i => rankK keep (i : Int)) hlt] at st1
        have ST := Lib.hid st1
        have HK4 := Lib.hid (HK.out.grown st2 (fun j hj _ => by injection hj with hj; subst hj; rfl))
        have hrk : rankK keep (k : Int) = (liveUp keep k).length := by simp [rankK]
        rw [hrk] at ST HK4
        clear st1 st2 hrk
        cases hse : sees keep (k : Int) with
        | false =>
          rw [hse] at hcu hsu
          rw [if_neg (by simp)] at hsu
          have HSU := Lib.hid hsu
          clear hsu hse
          go_wp2_with fail
          go_roundw
          case rel => exact ⟨k + 1, by omega, by go_num, by rw [HSU.out], ST, HK4⟩
          case measure => (simp [intOf]; try omega)
        | true =>
          rw [hse] at hcu hsu
          rw [if_pos rfl] at hsu
          have HSU := Lib.hid hsu
          clear hsu hse
          go_wp2_with fail
          go_roundw
          case rel => exact ⟨k + 1, by omega, by go_num, by rw [HSU.out]; simp, ST, HK4⟩
          case measure => (simp [intOf]; try omega)
      · have hke : k = ns.length := by omega
        subst hke
        clear hsu
        obtain ⟨W4, hW4⟩ : ∃ W4, W4 = wr := ⟨_, rfl⟩
        subst hW4
        have hit : ∀ i, Its (.slice A1 ns.length c1) i → w2.heap.size ≤ i := fun i hi => (HT.out.lt i hi).1
        have hzM : w.heap.size ≤ M := hz1
        have HN4 := Lib.hid (HN3.out.kept HK.out (fun i hi hj => by have := hit i hj; omega))
        have HI4 := Lib.hid (own_kept HI3.out HK.out (fun i hi hj => by have := hit i hj; have := HIF.out i hi; omega))
        have HB4 := Lib.hid (HK.out.blk HB3.out (fun hj => by have := hit M hj; omega))
        have K4 := Lib.hid (K3.out.trans HK.out (fun i hlt hi => by have := hit i hi; omega))
        have hAvF : Hid (∀ b, AvF avs b → w.heap.size ≤ b ∧ b < M) := by
          show ∀ b, AvF avs b → _
          rintro b ⟨a, ha, hab⟩
          obtain ⟨i, hi⟩ := List.getElem?_of_mem ha
          have hl := (List.getElem?_eq_some_iff.1 hi).1
          rw [HN4.out.len] at hl
          exact (HN4.out.arg i a _ hi (List.getElem?_eq_getElem hl)).2 b hab
        have d0 : W4.cell? ⟨M, 0, none⟩ = some (.slice An ns.length cn) := by rw [cell_of_row _ _ _ _ _ _ HB4.out]; rfl
        have hMW : M < W4.heap.size := (Array.getElem?_eq_some_iff.1 HB4.out).1
        clear hit HN3 HI3 HB3 HK3 HT3 K3 HK
        go_wp2_with fail
        clear d0
        go_loopw [14, 56] (fun t14 t56 wr => ∃ k : Nat, k ≤ ns.length ∧ t56 = .int .i64 k ∧ Hid (NodesO wr (OutF W4.heap.size avs k) t14 (slideUp ns keep is k)) ∧
          Hid (∀ (i : Nat) (a : Value) (n : Nd), k ≤ i → avs[i]? = some a → ns[i]? = some n → wr.ownsRow 0 3 1 a n.args.length (ints n.args)) ∧ Hid (Kept (AvF avs) W4 wr)) (fun _ t56 _ => ns.length - (intOf t56).toNat)
        case atStart => exact ⟨0, by omega, rfl, NodesO.nil _ _, fun i a n _ h1 h2 => (HN4.out.arg i a n h1 h2).1, Kept.refl _ _⟩
        case round =>
          obtain ⟨k, hk, rfl, HO, HRest, HK⟩ := hrel
          have hll := liveUp_le keep k
          have hzr := HK.out.size
          have hav : ∀ {a : Value}, a ∈ avs → ∀ i, a.ownBlock = some i → AvF avs i := fun h i hi => ⟨_, h, hi⟩
          -- what still lies as it lay
          have rowN : Hid (wr.ownsRow 0 32 5 (.slice An ns.length cn) ns.length (flat avs ns)) := own_kept HN4.out.row HK.out (fun i hi ⟨a, ha, hab⟩ => by
            obtain ⟨j, hj⟩ := List.getElem?_of_mem ha
            have hl := (List.getElem?_eq_some_iff.1 hj).1
            rw [HN4.out.len] at hl
            exact own_ne HN4.out.row (HN4.out.arg j a _ hj (List.getElem?_eq_getElem hl)).1 (by decide) i hi hab)
          have rowI : Hid (wr.ownsRow 0 3 1 (.slice Ai is.length ci) is.length (ints is)) := own_kept HI4.out HK.out (fun i hi ⟨a, ha, hab⟩ => HSep.out a ha i hab hi)
          have rowT : Hid (wr.ownsRow w2.heap.size 3 1 (.slice A1 ns.length c1) ns.length (ints (fillUp (fun i => rankK keep (i : Int)) ns.length ns.length))) := own_kept HT.out HK.out (fun i hi hj => by have := (HT.out.lt i hi).1; have := hAvF.out i hj; omega)
          have rowK : Hid (wr.ownsRow WB.heap.size 4 1 (.slice Ak ns.length ck) ns.length (bools keep)) := own_kept HKr.out HK.out (fun i hi hj => by have := (HKr.out.lt i hi).1; have := hAvF.out i hj; have := HZ.out; omega)
          have hBX := HK.out.blk HB4.out (fun hj => by have := hAvF.out M hj; omega)
          have b1 : wr.cell? ⟨M, 1, none⟩ = some (.slice Ai is.length ci) := by rw [cell_of_row _ _ _ _ _ _ hBX]; rfl
          have b0 : wr.cell? ⟨M, 0, none⟩ = some (.slice An ns.length cn) := by rw [cell_of_row _ _ _ _ _ _ hBX]; rfl
          have HBX := Lib.hid hBX
          clear hBX
          obtain ⟨Ao, co, hao⟩ := HO.out.reads.slice
          rw [slideUp_length] at hao
          subst hao
          by_cases hlt : k < ns.length
          · have hal : k < avs.length := by rw [HN4.out.len]; exact hlt
            have hn2 : ns[k]? = some ns[k] := List.getElem?_eq_getElem hlt
            have ha2 : avs[k]? = some avs[k] := List.getElem?_eq_getElem hal
            have hsu := slideUp_succ (keep := keep) (is := is) hn2
            obtain ⟨gn, cn', he, m0, m1, m2, m3, m4⟩ := flat_cells rowN.out ha2 hn2
            injection he with he _ hc
            subst he hc
            have hra := HRest.out k _ _ (Nat.le_refl k) ha2 hn2
            have hap : Hid (∀ (i : Nat) (b : Value), avs[i]? = some b → i ≠ k → ∀ j, b.ownBlock = some j → avs[k].ownBlock ≠ some j) := fun i b hi hne j hj => HN4.out.apart i k b _ j hi ha2 hne hj
            have hamem : avs[k] ∈ avs := List.getElem_mem hal
            have hag : Hid (∀ b ∈ ns[k].args, inR ns b = true) := fun b hb => HGd.out.sane.arg (List.mem_of_getElem? hn2) hb
            have h6 := HGd.out.sane.few _ (List.mem_of_getElem? hn2)
            have HKOk : Hid (sees keep (k : Int) = true → ∀ b ∈ ns[k].args, sees keep (at0 is b) = true) := fun hs b hb => by
              rw [HKP.out] at hs ⊢
              exact (keepOk_of HGd.out.sane HI.out HOK.out).down (k : Int) _ (by unfold ndAt; rw [if_pos (by omega)]; simp) hs b hb
            have HA2 := Lib.hid ha2
            generalize ns[k] = n at *
            generalize avs[k] = av at *
            obtain ⟨Aa, ca, rfl⟩ := (own_reads hra (F := fun _ => True) (fun _ _ => trivial)).slice
            have HRA := Lib.hid hra
            have hab : Hid (∀ i, Its (.slice Aa n.args.length ca) i → w.heap.size ≤ i ∧ i < M) := fun i hi => hAvF.out i ⟨_, hamem, hi⟩
            have HAm := Lib.hid hamem
            clear hn2 ha2 hra hamem hav
            have ka : Kept No wr (wr.alloc (.cells #[.int .i64 n.sym, .slice Aa n.args.length ca, .int .i64 n.mark, .bool n.pts, .int .i64 n.to] 32)) := (Kept.refl No wr).alloc _
            obtain ⟨gk, ck', he, hcu⟩ := sees_row (own_kept rowK.out ka (fun _ _ hn => hn)) hkl (x := (k : Int)) ⟨by omega, by omega⟩
            injection he with he _ hc
            subst he hc
            simp only [Int.toNat_natCast] at hcu
            cases hse : sees keep (k : Int) with
            | false =>
              rw [hse] at hcu hsu
              rw [if_neg (by simp)] at hsu
              have HO5 : Hid (NodesO (wr.alloc (.cells #[.int .i64 n.sym, .slice Aa n.args.length ca, .int .i64 n.mark, .bool n.pts, .int .i64 n.to] 32)) (OutF W4.heap.size avs (k + 1)) (.slice Ao (liveUp keep k).length co) (slideUp ns keep is (k + 1))) := by
                show NodesO _ _ _ _
                rw [hsu]
                exact (HO.out.keptNo ka).mono (fun b hb _ => by
                  rcases hb with hb | ⟨i, a, h1, h2, h3⟩
                  · exact .inl hb
                  · exact .inr ⟨i, a, by omega, h2, h3⟩)
              have HR5 := Lib.hid (fun (i : Nat) (a : Value) (n : Nd) (hi : k + 1 ≤ i) h1 h2 => own_kept (HRest.out i a n (by omega) h1 h2) ka (fun _ _ hn => hn))
              have HK5 := Lib.hid (HK.out.thenNo ka)
              clear hsu hse ka
              go_wp2_with fail
              go_roundw
              case rel => exact ⟨k + 1, by omega, by go_num, HO5, HR5, HK5⟩
              case measure => (simp [intOf]; try omega)
            | true =>
              rw [hse] at hcu hsu
              rw [if_pos rfl] at hsu
              have HSU := Lib.hid hsu
              have HDown := Lib.hid (HKOk.out hse)
              clear hsu hse HKOk
              have HT16 := Lib.hid (heap_alloc_new wr (.cells #[.int .i64 n.sym, .slice Aa n.args.length ca, .int .i64 n.mark, .bool n.pts, .int .i64 n.to] 32))
              have KA := Lib.hid ka
              have hz16 : wr.heap.size < (wr.alloc (.cells #[.int .i64 n.sym, .slice Aa n.args.length ca, .int .i64 n.mark, .bool n.pts, .int .i64 n.to] 32)).heap.size := by simp
              have HRA5 := Lib.hid (own_kept HRA.out ka (fun _ _ hn => hn))
              clear ka
              go_wp2_with fail
              generalize wr.alloc (.cells #[.int .i64 n.sym, .slice Aa n.args.length ca, .int .i64 n.mark, .bool n.pts, .int .i64 n.to] 32) = W5 at *
              obtain ⟨W1, hW1⟩ : ∃ W1, W1 = wr := ⟨_, rfl⟩
              subst hW1
              clear m0 m1 m2 m3 m4 b0 b1 hcu
              go_loopw [69] (fun t69 wr => ∃ j : Nat, j ≤ n.args.length ∧ t69 = .int .i64 j ∧ Hid (wr.ownsRow 0 3 1 (.slice Aa n.args.length ca) n.args.length (ints (mapUp (fun b => rankK keep (at0 is b)) n.args j))) ∧ Hid (Kept (Its (.slice Aa n.args.length ca)) W5 wr)) (fun t69 _ => n.args.length - (intOf t69).toNat)
              case atStart => exact ⟨0, by omega, rfl, by rw [mapUp_zero]; exact HRA5, Kept.refl _ _⟩
              case round =>
                clear HRA5
                obtain ⟨j, hj, rfl, HRow, HKJ⟩ := hrel
                have hbx := HKJ.out.blk HT16.out (fun hi => by have := hab.out _ hi; omega)
                obtain ⟨⟨x0, x1, x2, x3, x4⟩, _⟩ := cells5 hbx
                by_cases hlt2 : j < n.args.length
                · have hkz : Kept (Its (.slice Aa n.args.length ca)) W1 wr := (KA.out.all).trans HKJ.out (fun _ _ h => h)
                  have hBj := hkz.blk HBX.out (fun hi => by have := hab.out _ hi; omega)
                  have b1 : wr.cell? ⟨M, 1, none⟩ = some (.slice Ai is.length ci) := by rw [cell_of_row _ _ _ _ _ _ hBj]; rfl
                  obtain ⟨ga, ca', u, he, hu, hcu, hfu, _, _⟩ := own_get HRow.out hlt2
                  injection he with he _ hc
                  subst he hc
                  have hbj : n.args[j]? = some n.args[j] := List.getElem?_eq_getElem hlt2
                  have hst := mapUp_set (fun b => rankK keep (at0 is b)) n.args hlt2
                  have hu2 : u = .int .i64 n.args[j] := by
                    rw [ints_get, mapUp_get _ _ hlt2, hbj] at hu
                    simpa using hu.symm
                  subst hu2
                  have hbr := hag.out _ (List.mem_of_getElem? hbj)
                  have hbr2 := inR_iff.1 (HI.out.inR hbr)
                  generalize n.args[j] = b at *
                  obtain ⟨hb0, hb1⟩ := inR_iff.1 hbr
                  obtain ⟨hc0, hc1⟩ := hbr2
                  have hbl : b.toNat < is.length := by rw [HI.out.len]; omega
                  obtain ⟨gi, ci', u, he, hu', hcu', _, _, _⟩ := own_get (own_kept rowI.out hkz (fun i hi hj => HSep.out _ HAm.out i hj hi)) hbl
                  injection he with he _ hc
                  subst he hc
                  have hu2 : u = .int .i64 (at0 is b) := by
                    rw [ints_get, at0_get hbl] at hu'
                    simpa using hu'.symm
                  subst hu2
                  obtain ⟨st1, st2⟩ := HRow.out.stored j (.int .i64 (rankK keep (at0 is b)))
                  rw [ints_set, hst] at st1
                  have ST := Lib.hid st1
                  have HK2 := Lib.hid (HKJ.out.grown st2 (fun j hj _ => by injection hj with hj; subst hj; rfl))
                  have htt := fillUp_at (fun i => rankK keep (i : Int)) (n := ns.length) (x := at0 is b) ⟨hc0, hc1⟩
                  rw [Int.toNat_of_nonneg hc0] at htt
                  have htl : (at0 is b).toNat < ns.length := by omega
                  obtain ⟨gt, ct, u, he, hu'', hcu'', _, _, _⟩ := own_get (own_kept rowT.out hkz (fun i hi hj => by have := (rowT.out.lt i hi).1; have := hab.out i hj; omega)) htl
                  injection he with he _ hc
                  subst he hc
                  have hu2 : u = .int .i64 (rankK keep (at0 is b)) := by
                    rw [ints_get, at0_get (by simpa using htl), htt] at hu''
                    simpa using hu''.symm
                  subst hu2
                  clear hst hu hu' hu'' st1 st2 htt hbj hbr hkz hBj hbx
                  generalize hbb : at0 is b = c at *
                  go_wp2_with fail
                  go_region
                  all_goals
                    go_wp2_with fail
                    go_roundw
                    case rel => exact ⟨j + 1, by omega, by go_num, ST, HK2.out.drew⟩
                    case measure => (simp [intOf]; try omega)
                · have hke : j = n.args.length := by omega
                  subst hke
                  rw [mapUp_all] at HRow
                  have hkz : Kept (Its (.slice Aa n.args.length ca)) W1 wr := (KA.out.all).trans HKJ.out (fun _ _ h => h)
                  have hoz := HO.out.kept hkz (fun b hb hi => by
                    have hi' := hab.out b hi
                    rcases hb with hb | ⟨i, a, h1, h2, h3⟩
                    · omega
                    · exact hap.out i a h2 (by omega) b h3 hi)
                  obtain ⟨v9, w9, happ, ho9, k9, g9, c9, rfl⟩ := nodes_push hoz (slideNd keep is n) (.slice Aa n.args.length ca) (by
                    unfold slideNd
                    dsimp only
                    rw [List.length_map]
                    exact HRow.out) (fun b hb hf => by
                    have hi' := hab.out b hb
                    rcases hf with hf | ⟨i, a, h1, h2, h3⟩
                    · omega
                    · exact hap.out i a h2 (by omega) b h3 hb) (by rw [slideUp_length]; omega)
                  unfold slideNd at happ
                  dsimp only [ndCells] at happ
                  rw [slideUp_length] at happ
                  have hz9 := k9.size
                  have hzz := hkz.size
                  have HO9 : Hid (NodesO w9 (OutF W4.heap.size avs (k + 1)) (.slice (some ⟨g9, 0, none⟩) ((liveUp keep k).length + 1) c9) (slideUp ns keep is (k + 1))) := by
                    show NodesO _ _ _ _
                    rw [HSU.out]
                    have := ho9
                    rw [slideUp_length] at this
                    refine this.mono (fun b hb _ => ?_)
                    rcases hb with (hb | ⟨i, a, h1, h2, h3⟩) | hb | hb
                    · exact .inl hb
                    · exact .inr ⟨i, a, by omega, h2, h3⟩
                    · exact .inr ⟨k, _, by omega, HA2.out, hb⟩
                    · exact .inl (by omega)
                  have hown : ∀ b, (Value.slice Ao (liveUp keep k).length co).ownBlock = some b → OutF W4.heap.size avs k b := fun b hb => by
                    obtain ⟨_, _, _, hF, _⟩ := HO.out
                    exact hF b hb
                  have hkn : Hid (∀ b, (Value.slice Ao (liveUp keep k).length co).ownBlock = some b → W4.heap.size ≤ b ∨ AvF avs b) := fun b hb => by
                    rcases hown b hb with h | ⟨i, a, _, h2, h3⟩
                    · exact .inl h
                    · exact .inr ⟨a, List.mem_of_getElem? h2, h3⟩
                  have HR9 : Hid (∀ (i : Nat) (a : Value) (n : Nd), k + 1 ≤ i → avs[i]? = some a → ns[i]? = some n → w9.ownsRow 0 3 1 a n.args.length (ints n.args)) := fun i a n' hi h1 h2 => by
                    have h0 := own_kept (HRest.out i a n' (by omega) h1 h2) hkz (fun b hb hc => hap.out i a h1 (by omega) b hb hc)
                    refine own_kept h0 k9 (fun b hb hc => ?_)
                    obtain ⟨av0, _, hrw, _⟩ := hoz
                    exact own_ne h0 hrw (by decide) b hb hc
                  have HK9 := Lib.hid ((HK.out.trans hkz (fun b _ hb => ⟨_, HAm.out, hb⟩)).trans k9 (fun b hlt hb => by
                    rcases hkn.out b hb with h | h
                    · omega
                    · exact h))
                  clear hkz hoz ho9 k9 hz9 hzz hown hbx
                  go_wp2_with (at_builtin; refine wpList_append_run rfl (.tmp 87) (.tmp 89) 39 rfl rfl rfl happ ?_; clear happ)
                  go_roundw
                  case rel => exact ⟨k + 1, by omega, by go_num, HO9, HR9, HK9⟩
                  case measure => (simp [intOf]; try omega)
          · have hke : k = ns.length := by omega
            subst hke
            have hok := keepOk_of HGd.out.sane HI.out HOK.out
            rw [← HKP.out] at hok
            have hsg := slide_good HGd.out HI.out hok
            have hK6 : Kept No w wr := K4.out.trans HK.out (fun i hlt hi => by have := hAvF.out i hi; omega)
            have K6 := Lib.hid hK6
            have hz6 := hK6.size
            have hsl : (slideUp ns keep is ns.length).length = (liveUp keep ns.length).length := slideUp_length _ _ _ _
            have hrf := refill_any (H.out.keptNo hK6) HO.out.reads hroom (by rw [hsl]; omega) (fun n hn => by have := (hsg.may n hn).2.1; omega)
            rw [show refillP room ns (slideUp ns keep is ns.length) = (slideUp ns keep is ns.length, 0) from refill_good hsg ns] at hrf
            have HSG := Lib.hid hsg
            have hFb : Hid (∀ b, w.heap.size ≤ b → ¬ F b) := fun b hb hf => by have := HBn.out b hf; omega
            clear hok hsg hK6
            go_wp2_with fail
            refine hrf.mono ?_
            clear hrf
            rintro e w7 ⟨rfl, h7, k7⟩
            dsimp only at h7 ⊢
            have hz7 := k7.size
            have H7 : Hid (HeapO w7 (fun b => F b ∨ (w.heap.size ≤ b ∧ b < w7.heap.size)) hb room (slideUp ns keep is ns.length)) := h7.mono (fun b hb _ => by
              rcases hb with hb | hb
              · exact .inl hb
              · exact .inr (by omega))
            have K7 := Lib.hid ((K6.out.all (F := F)).trans k7 (fun _ _ h => h))
            have I7 := Lib.hid (own_kept rowI.out k7 (fun i hi => hFb.out i (HIF.out i hi).1))
            have T7 := Lib.hid (own_kept rowT.out k7 (fun i hi => hFb.out i (by have := (rowT.out.lt i hi).1; omega)))
            have V7 := Lib.hid ((HV.out.keptNo K6.out).kept k7 HD.out)
            have B7 := Lib.hid (k7.blk HBX.out (fun hf => hFb.out M (by omega) hf))
            obtain ⟨ov, w8, hmk, ⟨A8, c8, rfl⟩, ho8, hg8⟩ := run_make_one (P := Try.prog) (z := .int .i64 0) Try.underlying22 info3 rfl roots.length (by omega) (by omega) w7
            have k8 : Kept No w7 w8 := Kept.of_grown hg8 (by simp)
            have O8 : Hid (w8.ownsRow w7.heap.size 3 1 (.slice A8 roots.length c8) roots.length (ints (fillUp (fun i => rankK keep (at0 is (roots.getD i 0))) roots.length 0))) := by
              show World.ownsRow _ _ _ _ _ _ _
              rw [fillUp_zero]
              simpa [ints] using ho8
            have KN8 := Lib.hid k8
            clear h7 k7 k8 ho8 hg8 HO HRest HK rowN rowI rowT rowK HBX b0 b1
            go_wp2_with fail
            clear hmk
            go_loopw [100] (fun t100 wx => ∃ k : Nat, k ≤ roots.length ∧ t100 = .int .i64 k ∧ Hid (wx.ownsRow w7.heap.size 3 1 (.slice A8 roots.length c8) roots.length (ints (fillUp (fun i => rankK keep (at0 is (roots.getD i 0))) roots.length k))) ∧ Hid (Kept (Its (.slice A8 roots.length c8)) w8 wx)) (fun t100 _ => roots.length - (intOf t100).toNat)
            case atStart => exact ⟨0, by omega, rfl, O8, Kept.refl _ _⟩
            case round =>
              clear O8
              obtain ⟨k, hk, rfl, HO, HK⟩ := hrel
              have hit : ∀ i, Its (.slice A8 roots.length c8) i → w7.heap.size ≤ i := fun i hi => (HO.out.lt i hi).1
              have hk78 : Kept (Its (.slice A8 roots.length c8)) w7 wr := (KN8.out.all).trans HK.out (fun _ _ h => h)
              have rowI : Hid (wr.ownsRow 0 3 1 (.slice Ai is.length ci) is.length (ints is)) := own_kept I7.out hk78 (fun i hi hj => by have := hit i hj; have := (I7.out.lt i hi).2; omega)
              have rowT : Hid (wr.ownsRow w2.heap.size 3 1 (.slice A1 ns.length c1) ns.length (ints (fillUp (fun i => rankK keep (i : Int)) ns.length ns.length))) := own_kept T7.out hk78 (fun i hi hj => by have := hit i hj; have := (T7.out.lt i hi).2; omega)
              have hMz := (Array.getElem?_eq_some_iff.1 B7.out).1
              have hBX := hk78.blk B7.out (fun hj => by have := hit M hj; omega)
              have b1 : wr.cell? ⟨M, 1, none⟩ = some (.slice Ai is.length ci) := by rw [cell_of_row _ _ _ _ _ _ hBX]; rfl
              have b0 : wr.cell? ⟨M, 0, none⟩ = some (.slice An ns.length cn) := by rw [cell_of_row _ _ _ _ _ _ hBX]; rfl
              have HK78 := Lib.hid hk78
              clear hBX hk78
              by_cases hlt : k < roots.length
              · have hx : roots[k]? = some roots[k] := List.getElem?_eq_getElem hlt
                have hrr := List.all_eq_true.1 HOK.out _ (List.mem_of_getElem? hx)
                obtain ⟨hV1, A', cv', he, hcc, hrd⟩ := V7.out
                injection he with hA' _ hc
                obtain ⟨bv, ov, hAv, hGv, hbl7, hcell⟩ := hrd (by omega)
                have hcl7 := hcell k (.int .i64 roots[k]) (by rw [ints_get, hx]; rfl)
                have hcl := (HK78.out.cell (p := ⟨bv, ov + k, none⟩) hbl7 (fun hj => by have := hit _ hj; dsimp only at this; omega)).trans hcl7
                subst hA' hc hAv
                have hgd : roots.getD k 0 = roots[k] := by simp [List.getD, hx]
                have hrr2 := inR_iff.1 (HI.out.inR hrr)
                obtain ⟨go, co', u, he, _, hco, hfo, _, _⟩ := own_get HO.out hlt
                injection he with he _ hc
                subst he hc
                obtain ⟨st1, st2⟩ := HO.out.stored k (.int .i64 (rankK keep (at0 is roots[k])))
                have hfs := fillUp_set (fun i => rankK keep (at0 is (roots.getD i 0))) hlt
                rw [hgd] at hfs
                rw [ints_set, hfs] at st1
                generalize roots[k] = r at *
                obtain ⟨hr0, hr1⟩ := inR_iff.1 hrr
                obtain ⟨hc0, hc1⟩ := hrr2
                have hrl : r.toNat < is.length := by rw [HI.out.len]; omega
                obtain ⟨gi, ci', u, he, hu', hcu', _, _, _⟩ := own_get rowI.out hrl
                injection he with he _ hc
                subst he hc
                have hu2 : u = .int .i64 (at0 is r) := by
                  rw [ints_get, at0_get hrl] at hu'
                  simpa using hu'.symm
                subst hu2
                have htt := fillUp_at (fun i => rankK keep (i : Int)) (n := ns.length) (x := at0 is r) ⟨hc0, hc1⟩
                rw [Int.toNat_of_nonneg hc0] at htt
                have htl : (at0 is r).toNat < ns.length := by omega
                obtain ⟨gt, ct, u, he, hu'', hcu'', _, _, _⟩ := own_get rowT.out htl
                injection he with he _ hc
                subst he hc
                have hu2 : u = .int .i64 (rankK keep (at0 is r)) := by
                  rw [ints_get, at0_get (by simpa using htl), htt] at hu''
                  simpa using hu''.symm
                subst hu2
                have ST := Lib.hid st1
                have HK2 := Lib.hid (HK.out.grown st2 (fun j hj _ => by injection hj with hj; subst hj; rfl))
                clear st1 st2 hfs hgd hu' hu'' htt hcell hcl7 hrd hx hV1 hit
                generalize hbb : at0 is r = c at *
                clear hbb
                go_wp2_with fail
                go_roundw
                case rel => exact ⟨k + 1, by omega, by go_num, ST, HK2⟩
                case measure => (simp [intOf]; try omega)
              · have hke : k = roots.length := by omega
                subst hke
                have hfin : Hid (∀ W, Kept No wr W → RetCollect w F hb room ns is roots (.returned (.tuple #[.slice A8 roots.length c8, .int .i64 ((ns.length : Int) - (liveUp keep ns.length).length), .int .i64 0])) W) := by
                  show ∀ W, Kept No wr W → _
                  intro W kW
                  have es : slideOf ns is roots = slideUp ns keep is ns.length := by unfold slideOf; rw [← HKP.out]; rfl
                  have et : toOf ns is roots = fillUp (fun i => rankK keep (at0 is (roots.getD i 0))) roots.length roots.length := by
                    rw [fillUp_all, range_getD roots (fun r => rankK keep (at0 is r))]
                    unfold toOf
                    rw [← HKP.out]
                  refine ⟨fun h => by (rw [HOK.out] at h; cases h), fun _ => ⟨.slice A8 roots.length c8, w7.heap.size, by rw [es, hsl], ?_, by rw [et]; exact own_kept HO.out kW (fun _ _ hn => hn), by omega, Nat.le_trans HK78.out.size kW.size, ?_⟩⟩
                  · rw [es]
                    exact (H7.out.kept HK78.out (fun b hb hj => by
                      have := hit b hj
                      rcases hb with hb | hb
                      · have := HBn.out b hb; omega
                      · omega)).keptNo kW
                  · exact (K7.out.trans HK78.out (fun b hlt hj => by have := hit b hj; omega)).thenNo kW
                clear hit
                go_wp2_with fail
                go_quiet (fail)
                go_wp2_with fail
                go_ret3
                first | exact hfin.out _ (Kept.refl _ _) | exact hfin.out _ ((Kept.refl _ _).drewN _) | exact hfin.out _ (Kept.refl _ _).drew
end Go.Proofs.Ytooalgnppnmeaaa
