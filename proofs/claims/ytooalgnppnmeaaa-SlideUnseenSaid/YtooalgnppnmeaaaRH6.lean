/- The document's Refill. -/
import Derived.Test.YtooalgnppnmeaaaRH5
namespace Go.Proofs.Ytooalgnppnmeaaa
open Go.RowKit

/-- A call on the document's heap that answers an error; the heap may have grown. -/
def RRetErrG (w : World) (F : Nat → Prop) (hb : Nat) (room : Int) (p : List Nd × Int) (e : Ending) (w' : World) : Prop :=
  e = .returned (.int .i64 p.2) ∧ RHeapO w' (Grow F w w') hb room p.1 ∧ Kept F w w'
theorem RRetErrG.same {w w' : World} {F : Nat → Prop} {hb : Nat} {room : Int} {ns : List Nd} (h : RHeapO w F hb room ns) (hk : Kept No w w') {err : Int} : RRetErrG w F hb room (ns, err) (.returned (.int .i64 err)) w' :=
  ⟨rfl, (h.keptNo hk).mono (fun _ hk _ => .inl hk), hk.all⟩

set_option maxRecDepth 100000 in
set_option maxHeartbeats 4000000 in
theorem rrefill_any {F G : Nat → Prop} {hb : Nat} {room : Int} {ns : List Nd} {w : World} (h : RHeapO w F hb room ns) {v : Value} {l : List Nd} (hl : NodesR w G v l) (hroom : room ≤ 4000) (hB : Bulk l) :
    Calls Try.prog 71 #[.pointer (some ⟨hb, 0, none⟩), v] w (RRetErrG w F hb room (refillP room ns l)) := by
  obtain ⟨A, c, rfl⟩ := hl.slice
  have H := Lib.hid h
  have HL := Lib.hid hl
  have HBk := Lib.hid hB
  have hsz := hB.1
  obtain ⟨A1, c1, hfb, hbl, z0, z1, zf, hn⟩ := h.open_
  clear h hl hB hn z1
  by_cases hbig : room < l.length
  · have hp : refillP room ns l = (ns, 111) := by unfold refillP; rw [if_pos hbig]
    have HF := Lib.hid (hp ▸ RRetErrG.same H.out (Kept.refl No w) : RRetErrG w F hb room (refillP room ns l) (.returned (.int .i64 111)) w)
    clear hp
    go_enter Try.func71, Try.ntmps71
    go_wp2_with fail
    go_ret
    exact HF.out
  · have r114 : Hid (¬ (∀ n ∈ l, MayP n l.length) → refillP room ns l = (ns, 114)) := fun h => by unfold refillP; rw [if_neg hbig, if_pos h]
    have r113 : Hid ((∀ n ∈ l, MayP n l.length) → ¬ Acyc l → refillP room ns l = (ns, 113)) := fun h h2 => by unfold refillP; rw [if_neg hbig, if_neg (fun h3 => h3 h), if_pos h2]
    have r0 : Hid ((∀ n ∈ l, MayP n l.length) → Acyc l → refillP room ns l = (l, 0)) := fun h h2 => by unfold refillP; rw [if_neg hbig, if_neg (fun h3 => h3 h), if_neg (fun h3 => h3 h2)]
    go_enter Try.func71, Try.ntmps71
    go_wp2_with fail
    clear z0
    go_loopw [5] (fun t5 wr => ∃ k : Nat, k ≤ l.length ∧ t5 = .int .i64 k ∧ Hid (Kept No w wr) ∧ Hid (∀ n ∈ l.take k, MayP n l.length)) (fun t5 _ => l.length - (intOf t5).toNat)
    case atStart => exact ⟨0, Nat.zero_le _, rfl, Kept.refl _ _, fun n hn => by simp at hn⟩
    case round =>
      obtain ⟨k, hk, rfl, HK, HM⟩ := hrel
      by_cases hlt : k < l.length
      · have hn2 : l[k]? = some l[k] := List.getElem?_eq_getElem hlt
        obtain ⟨b1, o1, c3, av, he, _, hb1, m0, m1, m2, m3, m4, hrow⟩ := (HL.out.keptNo HK.out).at_ hn2
        injection he with he _ hc
        subst he hc
        have htk := List.take_add_one (l := l) (i := k)
        rw [hn2] at htk
        generalize l[k] = n at *
        have hmem := List.mem_of_getElem? hn2
        have hsn := HBk.out.2 n hmem
        obtain ⟨Av, cv, rfl⟩ := hrow.slice
        have HR := Lib.hid hrow
        have HT := Lib.hid htk
        have HMem := Lib.hid hmem
        obtain ⟨b, hb2⟩ : ∃ b : Bool, b = true ↔ MayP n l.length := by
          classical exact ⟨decide (MayP n l.length), by simp⟩
        have HB := Lib.hid hb2
        clear hn2 hrow htk hmem hb2
        go_wp2_with fail
        refine (rmay_any (l.length : Int) HR.out (by omega) b HB.out).mono ?_
        rintro e w3 ⟨rfl, k3⟩
        have K4 : Hid (Kept No w w3) := HK.out.thenNo k3
        cases b with
        | false =>
          have HF := Lib.hid (r114.out (fun h => by have := HB.out.2 (h n HMem.out); cases this) ▸ RRetErrG.same H.out K4.out : RRetErrG w F hb room (refillP room ns l) (.returned (.int .i64 114)) w3)
          clear k3
          go_wp2_with fail
          go_ret
          exact HF.out
        | true =>
          have M6 : Hid (∀ n ∈ l.take (k + 1), MayP n l.length) := fun m hm => by
            rw [HT.out] at hm
            rcases List.mem_append.1 hm with hm | hm
            · exact HM.out m hm
            · have : m = n := by simpa using hm
              rw [this]; exact HB.out.1 rfl
          clear k3 HM
          go_wp2_with fail
          go_roundw
          case rel => exact ⟨k + 1, by omega, by go_num, K4, M6⟩
          case measure => (simp [intOf]; try omega)
      · have hke : k = l.length := by omega
        have HM2 : Hid (∀ n ∈ l, MayP n l.length) := by
          have := HM.out
          rw [hke, List.take_length] at this
          exact this
        obtain ⟨b, hb2⟩ : ∃ b : Bool, b = true ↔ ¬ Acyc l := by
          classical exact ⟨decide (¬ Acyc l), by simp⟩
        have HB := Lib.hid hb2
        clear hb2 hke HM
        have hl4 : l.length ≤ 4000 := by omega
        go_wp2_with fail
        refine (ring_any (HL.out.keptNo HK.out) (sane_of_may HM2.out) hl4 b HB.out).mono ?_
        rintro e w3 ⟨rfl, k3⟩
        have K3 : Hid (Kept No w w3) := HK.out.thenNo k3
        cases b with
        | true =>
          have HF := Lib.hid (r113.out HM2.out (HB.out.1 rfl) ▸ RRetErrG.same H.out K3.out : RRetErrG w F hb room (refillP room ns l) (.returned (.int .i64 113)) w3)
          clear k3
          go_wp2_with fail
          go_ret
          exact HF.out
        | false =>
          have hA : Acyc l := Classical.byContradiction fun hn => by have := HB.out.2 hn; cases this
          have HA := Lib.hid hA
          clear k3 hA
          go_wp2_with fail
          refine (rnodes_any (HL.out.keptNo K3.out) HBk.out).mono ?_
          rintro e w4 ⟨nv, rfl, hnv, k4⟩
          have hz := K3.out.size
          obtain ⟨⟨v0, e3⟩, f3, b3, h3, k5⟩ := rheap_put H.out (K3.out.thenNo k4) (hnv.mono (F' := Fr w.heap.size) (fun i hi _ => Nat.le_trans hz hi.1))
          obtain ⟨A5, c5, rfl⟩ := hnv.reads.slice
          have HF := Lib.hid (show RRetErrG w F hb room (refillP room ns l) (.returned (.int .i64 0)) _ by rw [r0.out HM2.out HA.out]; exact ⟨rfl, h3, k5⟩)
          clear h3 k5 hnv k4
          go_wp2_with fail
          go_ret
          exact HF.out
end Go.Proofs.Ytooalgnppnmeaaa
