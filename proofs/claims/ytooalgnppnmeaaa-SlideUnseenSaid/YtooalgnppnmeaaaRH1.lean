/- The document's heap: Copied, Has, New. -/
import Derived.Test.YtooalgnppnmeaaaRRep
import Derived.Test.YtooalgnppnmeaaaR1
import Derived.Test.YtooalgnppnmeaaaH4
namespace Go.Proofs.Ytooalgnppnmeaaa
open Go.RowKit

theorem lit0 (w : World) : (w.alloc (.cells #[] 3)).ownsRow w.heap.size 3 1 (.slice (some ⟨w.heap.size, 0, none⟩) 0 0) 0 (ints []) :=
  World.ownsRow_lit w #[] 0 (Nat.le_refl _) (by decide) rfl

theorem copied_any (F : Nat → Prop) (v : Value) (l : List Int) (w : World) (hb : l.length * 8 ≤ 140737488355328) (h : RowR w 1 F v l.length (ints l)) : Calls Try.prog 78 #[v] w (RetInts w l) := by
  obtain ⟨A, c, rfl⟩ := h.slice
  obtain ⟨v', w2, happ, ho, hg, hat, _⟩ := run_append_row (P := Try.prog) (ty := 22) Try.underlying22 info3 rfl (by decide) (lit0 w) (h.keptNo ((Kept.refl No w).alloc (.cells #[] 3))) (ints_one l) (by omega) (by omega) (by simp)
  have k2 : Kept No w w2 := ((Kept.refl No w).alloc (.cells #[] 3)).grown hg (fun k hk hlt => by simp [Value.ownBlock] at hk; omega)
  have ho2 : w2.ownsRow w.heap.size 3 1 v' l.length (ints l) := by simpa [ints] using ho
  obtain ⟨A2, c2, rfl⟩ := (own_reads ho2 (F := fun _ => True) (fun _ _ => trivial)).slice
  have HF := Lib.hid (show RetInts w l (.returned (.slice A2 l.length c2)) w2 from ⟨_, rfl, ho2, k2⟩)
  clear ho hg hat ho2 k2 h
  go_enter Try.func78, Try.ntmps78
  go_wp2_with (at_builtin; refine wpList_append_run rfl (.tmp 3) (.tmp 4) 22 rfl rfl rfl happ ?_; clear happ)
  go_ret
  exact HF.out

theorem rnew_no (room : Int) (w : World) (h : ¬ (1 ≤ room ∧ room ≤ 4000)) : Calls Try.prog 36 #[.int .i64 room] w fun e w' => e = .returned (.tuple #[.pointer none, .int .i64 110]) ∧ w = w' := by
  by_cases h1 : room < 1
  · go_enter Try.func36, Try.ntmps36
    go_wp2
    go_ret2
    exact ⟨rfl, rfl⟩
  · have h2 : 4000 < room := by omega
    have h3 : decide (room < 1) = false := by simpa using h1
    go_enter Try.func36, Try.ntmps36
    go_wp2
    go_ret2
    exact ⟨rfl, rfl⟩
theorem rnew_yes (room : Int) (w : World) (h1 : 1 ≤ room) (h2 : room ≤ 4000) : Calls Try.prog 36 #[.int .i64 room] w fun e w' => e = .returned (.tuple #[.pointer (some ⟨w.heap.size, 0, none⟩), .int .i64 0]) ∧ w.alloc (.cells #[.int .i64 room, .slice none 0 0] 75) = w' := by
  have h3 : decide (room < 1) = false := by simpa using h1
  go_enter Try.func36, Try.ntmps36
  go_wp2
  go_ret2
  exact ⟨rfl, rfl⟩
theorem rhas_any {F : Nat → Prop} {hb : Nat} {room : Int} {ns : List Nd} {w : World} (h : RHeapO w F hb room ns) (a : Int) :
    Calls Try.prog 74 #[.pointer (some ⟨hb, 0, none⟩), .int .i64 a] w fun e w' => e = .returned (.bool (inR ns a)) ∧ w = w' := by
  obtain ⟨A, c, _, _, _, h1, _, _⟩ := h.open_
  clear h
  by_cases h0 : 0 ≤ a
  · go_enter Try.func74, Try.ntmps74
    go_wp2
    go_ret
    simp [h0, inR]
  · have hd : decide (0 ≤ a) = false := by simpa using h0
    go_enter Try.func74, Try.ntmps74
    go_wp2
    go_ret
    simp [inR]; omega


theorem rat_no {F : Nat → Prop} {hb : Nat} {room : Int} {ns : List Nd} {w : World} (h : RHeapO w F hb room ns) (a : Int) (hi : inR ns a = false) :
    Calls Try.prog 62 #[.pointer (some ⟨hb, 0, none⟩), .int .i64 a] w (RetAt w Nd.zero 112) := by
  have H := Lib.hid h
  have HI := Lib.hid hi
  clear h hi
  go_enter Try.func62, Try.ntmps62
  go_wp2_with fail
  refine (rhas_any (H.out.keptNo ((Kept.refl _ _).alloc _)) a).mono ?_
  rintro e w1 ⟨rfl, hw⟩
  rw [HI.out]
  have g1 : w1.heap[w.heap.size]? = _ := hw ▸ heap_alloc_new w _
  have k1 : Kept No w w1 := hw ▸ (Kept.refl No w).alloc _
  clear hw
  obtain ⟨⟨r0, r1, r2, r3, r4⟩, s0, s1, s2, s3, s4⟩ := cells5 g1
  obtain ⟨hf, hkf⟩ := store5 g1 (.int .i64 0) (.slice none 0 0) (.int .i64 0) (.bool false) (.int .i64 0)
  have HF := Lib.hid (And.intro hf (show RetAt w Nd.zero 112 (.returned (.tuple #[ndVal (.slice none 0 0) Nd.zero, .int .i64 112])) _ from ⟨_, rfl, World.ownsRow_nil _ _ _ _, k1.trans hkf (fun i hi e => by omega)⟩))
  clear hf hkf g1 k1
  go_wp2_with fail
  exact bodyPost_ret (results_nd (p := 4) (u := 5) rfl _ _ _ _ rfl HF.out.1 rfl) rfl HF.out.2


theorem rresolve_no {F : Nat → Prop} {hb : Nat} {room : Int} {ns : List Nd} {w : World} (h : RHeapO w F hb room ns) (a : Int) (hi : inR ns a = false) :
    Calls Try.prog 64 #[.pointer (some ⟨hb, 0, none⟩), .int .i64 a] w fun e w' => e = .returned (.tuple #[.int .i64 0, .int .i64 112]) ∧ w = w' := by
  have H := Lib.hid h
  have HI := Lib.hid hi
  clear h hi
  go_enter Try.func64, Try.ntmps64
  go_wp2_with fail
  refine (rhas_any H.out a).mono ?_
  rintro e w1 ⟨rfl, rfl⟩
  rw [HI.out]
  go_wp2_with fail
  go_ret2
  exact ⟨rfl, rfl⟩

theorem rresolve_yes {F : Nat → Prop} {hb : Nat} {room : Int} {ns : List Nd} {w : World} (h : RHeapO w F hb room ns) (hA : Acyc ns) (a b : Int) (hi : Is ns a b) :
    Calls Try.prog 64 #[.pointer (some ⟨hb, 0, none⟩), .int .i64 a] w fun e w' => e = .returned (.tuple #[.int .i64 b, .int .i64 0]) ∧ w = w' := by
  obtain ⟨r, hr⟩ := hA
  have H := Lib.hid h
  have HR := Lib.hid hr
  have HI := Lib.hid hi
  have hin : inR ns a = true := by
    cases hi with
    | app h1 _ => exact (ndAt_inR h1).1
    | ptr h1 _ _ => exact (ndAt_inR h1).1
  have HN := Lib.hid hin
  clear h hi hr hin
  obtain ⟨A, c, _, _, _, z1, _, hn⟩ := H.out.open_
  have HO := Lib.hid hn
  clear hn
  go_enter Try.func64, Try.ntmps64
  go_wp2_with fail
  refine (rhas_any H.out a).mono ?_
  rintro e w1 ⟨rfl, rfl⟩
  rw [HN.out]
  go_wp2_with fail
  go_loop [1] (fun t => ∃ x : Int, t = .int .i64 x ∧ Hid (Is ns x b)) (fun t => r (intOf t))
  case atStart => exact ⟨a, rfl, HI⟩
  case round =>
    obtain ⟨x, rfl, hx⟩ := hrel
    cases hx.out with
    | app h1 h2 =>
      obtain ⟨hr1, hr2⟩ := ndAt_inR h1
      obtain ⟨hr3, hr4⟩ := inR_iff.1 hr1
      obtain ⟨g, c', av, he, _, _, c0, c1, c2, c3, c4, _, _⟩ := HO.out.at_ hr2
      injection he with he _ hc
      subst he hc
      rw [h2] at c3
      clear h1 h2 hr2 c0 c1 c2 c4 hr1
      go_wp2_with fail
      go_ret2
      exact ⟨rfl, rfl⟩
    | ptr h1 h2 h3 =>
      rename_i n
      obtain ⟨hr1, hr2⟩ := ndAt_inR h1
      obtain ⟨hr3, hr4⟩ := inR_iff.1 hr1
      obtain ⟨g, c', av, he, _, _, c0, c1, c2, c3, c4, _, _⟩ := HO.out.at_ hr2
      injection he with he _ hc
      subst he hc
      rw [h2] at c3
      have hd := HR.out x n h1 n.to (by simp [Nd.down, h2])
      have H3 := Lib.hid h3
      clear h1 h2 h3 hr2 c0 c1 c2 hr1
      go_wp2_with fail
      go_round
      case rel => exact ⟨n.to, rfl, H3⟩
      case measure => simpa [intOf] using hd


/-- A call on the document's heap that answers an error. -/
def RRetErr (w : World) (F : Nat → Prop) (hb : Nat) (room : Int) (p : List Nd × Int) (e : Ending) (w' : World) : Prop :=
  e = .returned (.int .i64 p.2) ∧ RHeapO w' F hb room p.1 ∧ Kept F w w'


theorem rmark_any {F : Nat → Prop} {hb : Nat} {room : Int} {ns : List Nd} {w : World} (h : RHeapO w F hb room ns) (a mark : Int) :
    Calls Try.prog 66 #[.pointer (some ⟨hb, 0, none⟩), .int .i64 a, .int .i64 mark] w (RRetErr w F hb room (markP ns a mark)) := by
  have H := Lib.hid h
  clear h
  cases hq : inR ns a with
  | false =>
    have hm : markP ns a mark = (ns, 112) := by
      have : ndAt ns a = none := by
        cases hx : ndAt ns a with
        | none => rfl
        | some n => rw [(ndAt_inR hx).1] at hq; cases hq
      unfold markP; rw [this]
    rw [hm]
    have HQ := Lib.hid hq
    clear hm hq
    go_enter Try.func66, Try.ntmps66
    go_wp2_with fail
    refine (rhas_any H.out a).mono ?_
    rintro e w1 ⟨rfl, rfl⟩
    rw [HQ.out]
    go_wp2_with fail
    go_ret
    exact ⟨rfl, H.out, Kept.refl _ _⟩
  | true =>
    obtain ⟨n, h1, h2⟩ := ndAt_of hq
    obtain ⟨a0, a1⟩ := inR_iff.1 hq
    have HQ := Lib.hid hq
    obtain ⟨A, c, _, _, _, z1, _, hn⟩ := H.out.open_
    obtain ⟨g, c', av, he, _, _, c0, c1, c2, c3, c4, hf, _⟩ := hn.at_ h2
    injection he with he _ hc
    subst he hc
    have f2 := hf (a.toNat * 5 + 2)
    have Z1 := Lib.hid z1
    clear hn hf hq c0 c1 c4
    cases hp : n.pts with
    | true =>
      have hm : markP ns a mark = (ns, 112) := by unfold markP; rw [h1]; simp [hp]
      rw [hm]
      rw [hp] at c3
      clear hm h1 h2 hp
      go_enter Try.func66, Try.ntmps66
      go_wp2_with fail
      refine (rhas_any H.out a).mono ?_
      rintro e w1 ⟨rfl, rfl⟩
      rw [HQ.out]
      go_wp2_with fail
      go_ret
      exact ⟨rfl, H.out, Kept.refl _ _⟩
    | false =>
      rw [hp] at c3
      by_cases hk : mark < 0 ∨ 2 < mark
      · have hm : markP ns a mark = (ns, 1) := by unfold markP; rw [h1]; simp [hp, hk]
        rw [hm]
        clear hm h1 h2 hp
        by_cases hk1 : mark < 0
        · clear hk
          go_enter Try.func66, Try.ntmps66
          go_wp2_with fail
          refine (rhas_any H.out a).mono ?_
          rintro e w1 ⟨rfl, rfl⟩
          rw [HQ.out]
          go_wp2_with fail
          go_ret
          exact ⟨rfl, H.out, Kept.refl _ _⟩
        · have hk2 : 2 < mark := by omega
          have hk3 : decide (mark < 0) = false := by simpa using hk1
          clear hk
          go_enter Try.func66, Try.ntmps66
          go_wp2_with fail
          refine (rhas_any H.out a).mono ?_
          rintro e w1 ⟨rfl, rfl⟩
          rw [HQ.out]
          go_wp2_with fail
          go_ret
          exact ⟨rfl, H.out, Kept.refl _ _⟩
      · have hm : markP ns a mark = (ns.set a.toNat { n with mark := mark }, 0) := by unfold markP; rw [h1]; simp [hp, hk]
        rw [hm]
        obtain ⟨s1, s2, _⟩ := rheap_store (m := { n with mark := mark }) H.out Z1.out (fun hn => nodes_store (k := 2) (u := .int .i64 mark) hn h2 (by omega) rfl (fun a => by simp [ndCells]))
        have S1 := Lib.hid s1
        have S2 := Lib.hid s2
        have hk3 : decide (mark < 0) = false := by simp; omega
        have hk4 : ¬ 2 < mark := by omega
        clear hm h1 h2 hp hk s1 s2
        go_enter Try.func66, Try.ntmps66
        go_wp2_with fail
        refine (rhas_any H.out a).mono ?_
        rintro e w1 ⟨rfl, rfl⟩
        rw [HQ.out]
        go_wp2_with fail
        go_ret
        exact ⟨rfl, S1.out, S2.out⟩
end Go.Proofs.Ytooalgnppnmeaaa
