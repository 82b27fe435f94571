/- (*Heap).Refill. -/
import Derived.Test.YtooalgnppnmeaaaKRing
import Derived.Test.YtooalgnppnmeaaaMay
namespace Go.Proofs.Ytooalgnppnmeaaa
open Go.RowKit

open Classical in
/-- What Refill does. -/
noncomputable def refillP (room : Int) (ns l : List Nd) : List Nd × Int :=
  if room < l.length then (ns, 111) else if ¬ (∀ n ∈ l, MayP n l.length) then (ns, 114) else if ¬ Acyc l then (ns, 113) else (l, 0)
/-- A call on a heap that answers an error; the heap may have grown. -/
def RetErrG (w : World) (F : Nat → Prop) (hb : Nat) (room : Int) (p : List Nd × Int) (e : Ending) (w' : World) : Prop :=
  e = .returned (.int .i64 p.2) ∧ HeapO w' (Grow F w w') hb room p.1 ∧ Kept F w w'
theorem RetErrG.same {w w' : World} {F : Nat → Prop} {hb : Nat} {room : Int} {ns : List Nd} (h : HeapO w F hb room ns) (hk : Kept No w w') {err : Int} : RetErrG w F hb room (ns, err) (.returned (.int .i64 err)) w' :=
  ⟨rfl, (h.keptNo hk).mono (fun _ hk _ => .inl hk), hk.all⟩
/-- h.nodes = v. -/
theorem heap_put {w w3 : World} {F : Nat → Prop} {hb : Nat} {room : Int} {ns ms : List Nd} {v : Value} (h : HeapO w F hb room ns) (hk : Kept No w w3) (hv : NodesO w3 (Fr w.heap.size) v ms) :
    (∃ v0, w3.cell? ⟨hb, 1, none⟩ = some v0) ∧ w3.frozen? ⟨hb, 1, none⟩ = false ∧ hb < w3.heap.size ∧ HeapO (w3.setCell ⟨hb, 1, none⟩ v) (Grow F w (w3.setCell ⟨hb, 1, none⟩ v)) hb room ms ∧ Kept F w (w3.setCell ⟨hb, 1, none⟩ v) := by
  obtain ⟨v0, hcell, hfb, hn⟩ := h
  have hbl := (Array.getElem?_eq_some_iff.1 hcell).1
  have hcell3 := hk.blk hcell (fun h => h)
  have hb3 := (Array.getElem?_eq_some_iff.1 hcell3).1
  have hset := blk_set hcell3 1 v
  have k3 : Kept (fun k => k = hb) w3 (w3.setCell ⟨hb, 1, none⟩ v) := (Kept.refl (fun k => k = hb) w3).setCell (p := ⟨hb, 1, none⟩) (.inl rfl) _
  have kf : Kept F w (w3.setCell ⟨hb, 1, none⟩ v) := (hk.all).setCell (p := ⟨hb, 1, none⟩) (.inl hfb) _
  refine ⟨⟨v0, by rw [cell_of_row _ _ _ _ _ _ hcell3]; rfl⟩, frozen_of_row _ _ _ _ _ hcell3, hb3, ⟨v, by simpa using hset, .inl hfb, ?_⟩, kf⟩
  refine (hv.kept k3 (fun k hf e => by unfold Fr at hf; omega)).mono (fun k hf hlt => .inr ⟨hf, hlt⟩)

set_option maxRecDepth 100000 in
set_option maxHeartbeats 4000000 in
theorem refill_any {F G : Nat → Prop} {hb : Nat} {room : Int} {ns : List Nd} {w : World} (h : HeapO w F hb room ns) {v : Value} {l : List Nd} (hl : NodesR w G v l) (hroom : room ≤ 4000) (hsz : l.length ≤ 9223372036854775807) (hsz2 : ∀ n ∈ l, n.args.length ≤ 9223372036854775807) :
    Calls Try.prog 34 #[.pointer (some ⟨hb, 0, none⟩), v] w (RetErrG w F hb room (refillP room ns l)) := by
  obtain ⟨A, c, rfl⟩ := hl.slice
  have H := Lib.hid h
  have HL := Lib.hid hl
  have HS := Lib.hid hsz2
  obtain ⟨A1, c1, hfb, hbl, z0, z1, zf, hn⟩ := h.open_
  clear h hl hsz2 hn z1
  by_cases hbig : room < l.length
  · have hp : refillP room ns l = (ns, 111) := by unfold refillP; rw [if_pos hbig]
    have HF := Lib.hid (hp ▸ RetErrG.same H.out (Kept.refl No w) : RetErrG w F hb room (refillP room ns l) (.returned (.int .i64 111)) w)
    clear hp
    go_enter Try.func34, Try.ntmps34
    go_wp2_with fail
    go_ret
    exact HF.out
  · have r114 : Hid (¬ (∀ n ∈ l, MayP n l.length) → refillP room ns l = (ns, 114)) := fun h => by unfold refillP; rw [if_neg hbig, if_pos h]
    have r113 : Hid ((∀ n ∈ l, MayP n l.length) → ¬ Acyc l → refillP room ns l = (ns, 113)) := fun h h2 => by unfold refillP; rw [if_neg hbig, if_neg (fun h3 => h3 h), if_pos h2]
    have r0 : Hid ((∀ n ∈ l, MayP n l.length) → Acyc l → refillP room ns l = (l, 0)) := fun h h2 => by unfold refillP; rw [if_neg hbig, if_neg (fun h3 => h3 h), if_neg (fun h3 => h3 h2)]
    go_enter Try.func34, Try.ntmps34
    go_wp2_with fail
    clear z0
    go_loopw [5, 19] (fun t5 t19 wr => ∃ k : Nat, k ≤ l.length ∧ t19 = .int .i64 k ∧ Hid (NodesO wr (Sc w.heap.size wr) t5 (l.take k)) ∧ Hid (Kept No w wr) ∧ Hid (∀ n ∈ l.take k, MayP n l.length)) (fun _ t19 _ => l.length - (intOf t19).toNat)
    case atStart => exact ⟨0, Nat.zero_le _, rfl, NodesO.nil _ _, Kept.refl _ _, fun n hn => by simp at hn⟩
    case round =>
      obtain ⟨k, hk, rfl, HN, HK, HM⟩ := hrel
      by_cases hlt : k < l.length
      · have hn2 : l[k]? = some l[k] := List.getElem?_eq_getElem hlt
        obtain ⟨b1, o1, c3, av, he, _, hb1, m0, m1, m2, m3, m4, hrow⟩ := (HL.out.keptNo HK.out).at_ hn2
        injection he with he _ hc
        subst he hc
        have htk := List.take_add_one (l := l) (i := k)
        rw [hn2] at htk
        generalize l[k] = n at *
        have hmem := List.mem_of_getElem? hn2
        have hsn := HS.out n hmem
        obtain ⟨Av, cv, rfl⟩ := hrow.slice
        have HR := Lib.hid hrow
        have HT := Lib.hid htk
        have HMem := Lib.hid hmem
        obtain ⟨b, hb2⟩ : ∃ b : Bool, b = true ↔ MayP n l.length := by
          classical exact ⟨decide (MayP n l.length), by simp⟩
        have HB := Lib.hid hb2
        clear hn2 hrow htk hmem hb2
        go_wp2_with fail
        refine (may_any (l.length : Int) (HR.out.keptNo ((Kept.refl No wr).alloc _)) hsn b HB.out).mono ?_
        rintro e w3 ⟨rfl, k3⟩
        have K4 : Hid (Kept No wr w3) := ((Kept.refl No wr).alloc _).thenNo k3
        have g0 : w3.heap[wr.heap.size]? = _ := k3.blk (heap_alloc_new wr _) (fun h => h)
        obtain ⟨⟨p0, p1, p2, p3, p4⟩, q0, q1, q2, q3, q4⟩ := cells5 g0
        have hz4 := K4.out.size
        have hz0 := HK.out.size
        cases b with
        | false =>
          have HF := Lib.hid (r114.out (fun h => by have := HB.out.2 (h n HMem.out); cases this) ▸ RetErrG.same H.out (HK.out.thenNo K4.out) : RetErrG w F hb room (refillP room ns l) (.returned (.int .i64 114)) w3)
          clear k3 g0
          go_wp2_with fail
          go_ret
          exact HF.out
        | true =>
          have hmay := HB.out.1 rfl
          have hm6 := hmay.2.1
          have HMay := Lib.hid hmay
          obtain ⟨A5, c5, rfl⟩ := HN.out.reads.slice
          clear k3 g0 hmay
          go_wp2_with fail
          refine (own_any G (.slice Av n.args.length cv) n w3 (by omega) (HR.out.keptNo K4.out)).mono ?_
          rintro e w5 ⟨a, rfl, ho, k5⟩
          have hlk : (l.take k).length = k := by rw [List.length_take]; omega
          obtain ⟨v6, w6, happ, ho6, k6, g6, c6, rfl⟩ := nodes_push ((HN.out.keptNo K4.out).keptNo k5) n a (own_zero ho) (fun i hi hs => by have := (ho.lt i hi).1; have := hs.2; omega) (by omega)
          dsimp only [ndCells] at happ
          rw [hlk] at happ ho6
          have hz5 := k5.size
          have hz6 := k6.size
          have N6 : Hid (NodesO w6 (Sc w.heap.size w6) (.slice (some ⟨g6, 0, none⟩) (k + 1) c6) (l.take (k + 1))) := by
            show NodesO _ _ _ _
            rw [HT.out]
            refine ho6.mono (fun i hi _ => ?_)
            rcases hi with hi | hi | hi
            · exact ⟨hi.1, by have := hi.2; omega⟩
            · have := ho.lt i hi; exact ⟨by omega, by omega⟩
            · exact ⟨by omega, hi.2⟩
          have K6 : Hid (Kept No w w6) := ((HK.out.thenNo K4.out).thenNo k5).trans k6 (fun i hlt hi => by
            obtain ⟨_, _, _, hF, _⟩ := HN.out
            have := (hF i hi).1; omega)
          have M6 : Hid (∀ n ∈ l.take (k + 1), MayP n l.length) := fun m hm => by
            rw [HT.out] at hm
            rcases List.mem_append.1 hm with hm | hm
            · exact HM.out m hm
            · have : m = n := by simpa using hm
              rw [this]; exact HMay.out
          clear ho k5 ho6 k6 hz5 hz6 hlk
          unfold ndVal
          go_wp2_with (at_builtin; refine wpList_append_run rfl (.tmp 28) (.tmp 31) 39 rfl rfl rfl happ ?_; clear happ)
          exact ⟨⟨k + 1, by omega, by go_num, N6, K6, M6⟩, by (simp [intOf]; try omega)⟩
      · have hke : k = l.length := by omega
        have HN2 : Hid (NodesO wr (Sc w.heap.size wr) u5 l) := by
          have := HN.out
          rw [hke, List.take_length] at this
          exact this
        have HM2 : Hid (∀ n ∈ l, MayP n l.length) := by
          have := HM.out
          rw [hke, List.take_length] at this
          exact this
        obtain ⟨b, hb2⟩ : ∃ b : Bool, b = true ↔ ¬ Acyc l := by
          classical exact ⟨decide (¬ Acyc l), by simp⟩
        have HB := Lib.hid hb2
        clear hb2 hke HN HM
        have hl4 : l.length ≤ 4000 := by omega
        obtain ⟨A5, c5, rfl⟩ := HN2.out.reads.slice
        go_wp2_with fail
        refine (hring_any HN2.out.reads (sane_of_may HM2.out) hl4 b HB.out).mono ?_
        rintro e w3 ⟨rfl, k3⟩
        have K3 : Hid (Kept No w w3) := HK.out.thenNo k3
        cases b with
        | true =>
          have HF := Lib.hid (r113.out HM2.out (HB.out.1 rfl) ▸ RetErrG.same H.out K3.out : RetErrG w F hb room (refillP room ns l) (.returned (.int .i64 113)) w3)
          clear k3
          go_wp2_with fail
          go_ret
          exact HF.out
        | false =>
          have hA : Acyc l := Classical.byContradiction fun hn => by have := HB.out.2 hn; cases this
          obtain ⟨⟨v0, e3⟩, f3, b3, h3, k4⟩ := heap_put H.out K3.out ((HN2.out.keptNo k3).mono (F' := Fr w.heap.size) (fun i hi _ => hi.1))
          have HF := Lib.hid (show RetErrG w F hb room (refillP room ns l) (.returned (.int .i64 0)) _ by rw [r0.out HM2.out hA]; exact ⟨rfl, h3, k4⟩)
          clear k3 hA h3 k4
          go_wp2_with fail
          go_ret
          exact HF.out
theorem refillN {N : Nat} {G : Nat → Prop} {hb : Nat} {room : Int} {ns : List Nd} {w : World} (h : HeapN N w hb room ns) {v : Value} {l : List Nd} (hl : NodesR w G v l) (hroom : room ≤ 4000) (hsz : l.length ≤ 9223372036854775807) (hsz2 : ∀ n ∈ l, n.args.length ≤ 9223372036854775807) :
    Calls Try.prog 34 #[.pointer (some ⟨hb, 0, none⟩), v] w (fun e w' => e = .returned (.int .i64 (refillP room ns l).2) ∧ HeapN N w' hb room (refillP room ns l).1 ∧ Kept (Fr N) w w') :=
  (refill_any h.1 hl hroom hsz hsz2).mono fun _ _ ⟨he, hh, hk⟩ => ⟨he, HeapN.step h.2 hk.size hh, hk.mono (fun _ _ hf => hf.1)⟩
end Go.Proofs.Ytooalgnppnmeaaa
