/- The document's heap: At, Clear. -/
import Derived.Test.YtooalgnppnmeaaaRH1
namespace Go.Proofs.Ytooalgnppnmeaaa
open Go.RowKit

set_option maxRecDepth 100000 in
set_option maxHeartbeats 2000000 in
theorem rat_yes {F : Nat → Prop} {hb : Nat} {room : Int} {ns : List Nd} {w : World} (h : RHeapO w F hb room ns) (a : Int) (n : Nd) (hi : ndAt ns a = some n) (hs : n.args.length ≤ 1000000) :
    Calls Try.prog 62 #[.pointer (some ⟨hb, 0, none⟩), .int .i64 a] w (RetAt w n 0) := by
  obtain ⟨hin, hget⟩ := ndAt_inR hi
  have ha := inR_iff.1 hin
  obtain ⟨ha0, ha1⟩ := ha
  have H := Lib.hid h
  have HI := Lib.hid hin
  have HG := Lib.hid hget
  clear h hin hget hi
  go_enter Try.func62, Try.ntmps62
  go_wp2_with fail
  refine (rhas_any (H.out.keptNo ((Kept.refl _ _).alloc _)) a).mono ?_
  rintro e w1 ⟨rfl, hw⟩
  rw [HI.out]
  have g1 : w1.heap[w.heap.size]? = _ := hw ▸ heap_alloc_new w _
  have k1 : Kept No w w1 := hw ▸ (Kept.refl No w).alloc _
  clear hw
  obtain ⟨A, c, _, _, _, h1, _, hn⟩ := (H.out.keptNo k1).open_
  obtain ⟨b, o, c', av, he, _, _, c0, c1, c2, c3, c4, hr⟩ := hn.reads.at_ HG.out
  injection he with he _ hc
  subst he hc
  obtain ⟨Av, cv, rfl⟩ := hr.slice
  have G1 := Lib.hid g1
  have K1 := Lib.hid k1
  have HR := Lib.hid hr
  clear g1 k1 hr hn
  go_wp2_with fail
  refine (copied_any F _ n.args _ (by omega) (HR.out.keptNo ((Kept.refl No w1).alloc _))).mono ?_
  rintro e w3 ⟨v, rfl, ho, hk⟩
  obtain ⟨A2, c2', rfl⟩ := (own_reads ho (F := fun _ => True) (fun _ _ => trivial)).slice
  have g4 := hk.blk (blk_alloc G1.out _) (fun h => h)
  have g6 : w3.heap[w1.heap.size]? = _ := hk.blk (heap_alloc_new w1 _) (fun h => h)
  have hz := K1.out.size
  have hz3 := hk.size
  have hlt := (Array.getElem?_eq_some_iff.1 G1.out).1
  simp only [World.size_alloc] at hz3 ho
  obtain ⟨⟨p0, p1, p2, p3, p4⟩, q0, q1, q2, q3, q4⟩ := cells5 g4
  obtain ⟨⟨r0, r1, r2, r3, r4⟩, s0, s1, s2, s3, s4⟩ := cells5 g6
  have g4' := blk_far (p := ⟨w1.heap.size, 1, none⟩) g4 (by simp; omega) (.slice A2 n.args.length c2')
  obtain ⟨hf, hkf⟩ := store5 g4' (.int .i64 n.sym) (.slice A2 n.args.length c2') (.int .i64 n.mark) (.bool n.pts) (.int .i64 n.to)
  have k3 : Kept No w w3 := (K1.out.alloc _).thenNo hk
  have k4 := (k3.setCell (p := ⟨w1.heap.size, 1, none⟩) (.inr hz) (.slice A2 n.args.length c2')).trans hkf (fun i hi e => by omega)
  have o2 := own_kept (own_kept ho ((Kept.refl (fun k => k = w1.heap.size) w3).setCell (p := ⟨w1.heap.size, 1, none⟩) (.inl rfl) (.slice A2 n.args.length c2')) (fun k hk e => by have := (ho.lt k hk).1; omega)) hkf (fun k hk e => by have := (ho.lt k hk).1; omega)
  have HF := Lib.hid (And.intro hf (show RetAt w n 0 (.returned (.tuple #[ndVal (.slice A2 n.args.length c2') n, .int .i64 0])) _ from
    ⟨_, rfl, own_base o2 (fun k hk => by have := (ho.lt k hk).1; omega), k4⟩))
  have hne : w.heap.size ≠ w1.heap.size := by omega
  clear hf hkf g4 g4' g6 o2 ho hk hz K1 G1 HR k3 k4
  go_wp2_with fail
  exact bodyPost_ret (results_nd (p := 4) (u := 5) rfl _ _ _ _ rfl HF.out.1 rfl) rfl HF.out.2

theorem rclear_any {F : Nat → Prop} {hb : Nat} {room : Int} {ns : List Nd} {w : World} (h : RHeapO w F hb room ns) (hlen : ns.length ≤ 4000) :
    Calls Try.prog 68 #[.pointer (some ⟨hb, 0, none⟩)] w fun e w' => e = .returned (.tuple #[]) ∧ RHeapO w' F hb room (clearP ns) ∧ Kept F w w' := by
  obtain ⟨A, c, _, _, _, z1, _, _⟩ := h.open_
  have H := Lib.hid h
  clear h z1
  go_enter Try.func68, Try.ntmps68
  go_wp2_with fail
  go_loopw [2] (fun i wr => ∃ k : Nat, k ≤ ns.length ∧ i = .int .i64 k ∧ Hid (RHeapO wr F hb room (clearP (ns.take k) ++ ns.drop k)) ∧ Hid (Kept F w wr)) (fun i _ => ns.length - (intOf i).toNat)
  case atStart => exact ⟨0, Nat.zero_le _, rfl, by simpa [clearP] using H, Kept.refl _ _⟩
  case round =>
    obtain ⟨k, hk, rfl, HH, HK⟩ := hrel
    have hl : (clearP (ns.take k) ++ ns.drop k).length = ns.length := by simp [clearP]; omega
    obtain ⟨A2, c2, _, _, _, y1, _, hn⟩ := HH.out.open_
    by_cases hlt : k < ns.length
    · have hx : (clearP (ns.take k) ++ ns.drop k)[k]? = some ns[k] := by
        rw [List.getElem?_append_right (by simp [clearP]; omega)]
        simp [clearP, show min k ns.length = k by omega]
      have hnext := clear_step ns k hlt
      obtain ⟨g, c', av, he, _, _, c0, c1, c2', c3, c4, hf, _⟩ := hn.at_ hx
      injection he with he _ hc
      subst he hc
      have f2 := hf (k * 5 + 2)
      obtain ⟨s1, s2, _⟩ := rheap_store (m := { ns[k] with mark := 0 }) HH.out y1 (fun hn => nodes_store (k := 2) (u := .int .i64 0) hn hx (by omega) rfl (fun a => by simp [ndCells]))
      rw [hnext] at s1
      rw [hl] at y1
      have S1 := Lib.hid s1
      have S2 := Lib.hid (HK.out.trans s2 (fun _ _ h => h))
      clear hx hnext s1 s2 hn hf c0 c1 c3 c4 hl
      go_wp2_with fail
      go_roundw
      case rel => exact ⟨k + 1, by omega, by go_num, S1, S2⟩
      case measure => (simp [intOf]; try omega)
    · have hke : k = ns.length := by omega
      have HF : Hid (RHeapO wr F hb room (clearP ns)) := by
        have := HH.out
        rw [hke, List.take_length, List.drop_length, List.append_nil] at this
        exact this
      rw [hl] at y1
      clear hke hn
      go_wp2_with fail
      go_end0
      exact ⟨rfl, HF.out, HK.out⟩
end Go.Proofs.Ytooalgnppnmeaaa
