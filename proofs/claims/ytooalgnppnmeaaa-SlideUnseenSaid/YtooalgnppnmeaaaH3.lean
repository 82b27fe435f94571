/- (*Heap).Resolve, Mark, Clear. -/
import Derived.Test.YtooalgnppnmeaaaStore
import Derived.Test.YtooalgnppnmeaaaGraph
import Derived.LoopTactic
namespace Go.Proofs.Ytooalgnppnmeaaa
open Go.RowKit

theorem resolve_no {F : Nat → Prop} {hb : Nat} {room : Int} {ns : List Nd} {w : World} (h : HeapO w F hb room ns) (a : Int) (hi : inR ns a = false) :
    Calls Try.prog 32 #[.pointer (some ⟨hb, 0, none⟩), .int .i64 a] w fun e w' => e = .returned (.tuple #[.int .i64 0, .int .i64 112]) ∧ w = w' := by
  have H := Lib.hid h
  have HI := Lib.hid hi
  clear h hi
  go_enter Try.func32, Try.ntmps32
  go_wp2_with fail
  refine (has_any H.out a).mono ?_
  rintro e w1 ⟨rfl, rfl⟩
  rw [HI.out]
  go_wp2_with fail
  go_ret2
  exact ⟨rfl, rfl⟩

theorem resolve_yes {F : Nat → Prop} {hb : Nat} {room : Int} {ns : List Nd} {w : World} (h : HeapO w F hb room ns) (hA : Acyc ns) (a b : Int) (hi : Is ns a b) :
    Calls Try.prog 32 #[.pointer (some ⟨hb, 0, none⟩), .int .i64 a] w fun e w' => e = .returned (.tuple #[.int .i64 b, .int .i64 0]) ∧ w = w' := by
  obtain ⟨r, hr⟩ := hA
  have H := Lib.hid h
  have HR := Lib.hid hr
  have HI := Lib.hid hi
  have hin : inR ns a = true := by
    cases hi with
    | app h1 _ => exact (ndAt_inR h1).1
    | ptr h1 _ _ => exact (ndAt_inR h1).1
  have HN := Lib.hid hin
  clear h hi hr hin
  obtain ⟨A, c, _, _, _, z1, _, hn⟩ := H.out.open_
  have HO := Lib.hid hn
  clear hn
  go_enter Try.func32, Try.ntmps32
  go_wp2_with fail
  refine (has_any H.out a).mono ?_
  rintro e w1 ⟨rfl, rfl⟩
  rw [HN.out]
  go_wp2_with fail
  go_loop [1] (fun t => ∃ x : Int, t = .int .i64 x ∧ Hid (Is ns x b)) (fun t => r (intOf t))
  case atStart => exact ⟨a, rfl, HI⟩
  case round =>
    obtain ⟨x, rfl, hx⟩ := hrel
    cases hx.out with
    | app h1 h2 =>
      obtain ⟨hr1, hr2⟩ := ndAt_inR h1
      obtain ⟨hr3, hr4⟩ := inR_iff.1 hr1
      obtain ⟨g, c', av, he, _, _, c0, c1, c2, c3, c4, _, _⟩ := HO.out.at_ hr2
      injection he with he _ hc
      subst he hc
      rw [h2] at c3
      clear h1 h2 hr2 c0 c1 c2 c4 hr1
      go_wp2_with fail
      go_ret2
      exact ⟨rfl, rfl⟩
    | ptr h1 h2 h3 =>
      rename_i n
      obtain ⟨hr1, hr2⟩ := ndAt_inR h1
      obtain ⟨hr3, hr4⟩ := inR_iff.1 hr1
      obtain ⟨g, c', av, he, _, _, c0, c1, c2, c3, c4, _, _⟩ := HO.out.at_ hr2
      injection he with he _ hc
      subst he hc
      rw [h2] at c3
      have hd := HR.out x n h1 n.to (by simp [Nd.down, h2])
      have H3 := Lib.hid h3
      clear h1 h2 h3 hr2 c0 c1 c2 hr1
      go_wp2_with fail
      go_round
      case rel => exact ⟨n.to, rfl, H3⟩
      case measure => simpa [intOf] using hd

/-- What Mark does. -/
def markP (ns : List Nd) (a mark : Int) : List Nd × Int :=
  match ndAt ns a with
  | none => (ns, 112)
  | some n => if n.pts = true then (ns, 112) else if mark < 0 ∨ 2 < mark then (ns, 1) else (ns.set a.toNat { n with mark := mark }, 0)
/-- A call on a heap that answers an error. -/
def RetErr (w : World) (F : Nat → Prop) (hb : Nat) (room : Int) (p : List Nd × Int) (e : Ending) (w' : World) : Prop :=
  e = .returned (.int .i64 p.2) ∧ HeapO w' F hb room p.1 ∧ Kept F w w'

theorem mark_any {F : Nat → Prop} {hb : Nat} {room : Int} {ns : List Nd} {w : World} (h : HeapO w F hb room ns) (a mark : Int) :
    Calls Try.prog 55 #[.pointer (some ⟨hb, 0, none⟩), .int .i64 a, .int .i64 mark] w (RetErr w F hb room (markP ns a mark)) := by
  have H := Lib.hid h
  clear h
  cases hq : inR ns a with
  | false =>
    have hm : markP ns a mark = (ns, 112) := by
      have : ndAt ns a = none := by
        cases hx : ndAt ns a with
        | none => rfl
        | some n => rw [(ndAt_inR hx).1] at hq; cases hq
      unfold markP; rw [this]
    rw [hm]
    have HQ := Lib.hid hq
    clear hm hq
    go_enter Try.func55, Try.ntmps55
    go_wp2_with fail
    refine (has_any H.out a).mono ?_
    rintro e w1 ⟨rfl, rfl⟩
    rw [HQ.out]
    go_wp2_with fail
    go_ret
    exact ⟨rfl, H.out, Kept.refl _ _⟩
  | true =>
    obtain ⟨n, h1, h2⟩ := ndAt_of hq
    obtain ⟨a0, a1⟩ := inR_iff.1 hq
    have HQ := Lib.hid hq
    obtain ⟨A, c, _, _, _, z1, _, hn⟩ := H.out.open_
    obtain ⟨g, c', av, he, _, _, c0, c1, c2, c3, c4, hf, _⟩ := hn.at_ h2
    injection he with he _ hc
    subst he hc
    have f2 := hf (a.toNat * 5 + 2)
    have Z1 := Lib.hid z1
    clear hn hf hq c0 c1 c4
    cases hp : n.pts with
    | true =>
      have hm : markP ns a mark = (ns, 112) := by unfold markP; rw [h1]; simp [hp]
      rw [hm]
      rw [hp] at c3
      clear hm h1 h2 hp
      go_enter Try.func55, Try.ntmps55
      go_wp2_with fail
      refine (has_any H.out a).mono ?_
      rintro e w1 ⟨rfl, rfl⟩
      rw [HQ.out]
      go_wp2_with fail
      go_ret
      exact ⟨rfl, H.out, Kept.refl _ _⟩
    | false =>
      rw [hp] at c3
      by_cases hk : mark < 0 ∨ 2 < mark
      · have hm : markP ns a mark = (ns, 1) := by unfold markP; rw [h1]; simp [hp, hk]
        rw [hm]
        clear hm h1 h2 hp
        by_cases hk1 : mark < 0
        · clear hk
          go_enter Try.func55, Try.ntmps55
          go_wp2_with fail
          refine (has_any H.out a).mono ?_
          rintro e w1 ⟨rfl, rfl⟩
          rw [HQ.out]
          go_wp2_with fail
          go_ret
          exact ⟨rfl, H.out, Kept.refl _ _⟩
        · have hk2 : 2 < mark := by omega
          have hk3 : decide (mark < 0) = false := by simpa using hk1
          clear hk
          go_enter Try.func55, Try.ntmps55
          go_wp2_with fail
          refine (has_any H.out a).mono ?_
          rintro e w1 ⟨rfl, rfl⟩
          rw [HQ.out]
          go_wp2_with fail
          go_ret
          exact ⟨rfl, H.out, Kept.refl _ _⟩
      · have hm : markP ns a mark = (ns.set a.toNat { n with mark := mark }, 0) := by unfold markP; rw [h1]; simp [hp, hk]
        rw [hm]
        obtain ⟨s1, s2, _⟩ := heap_store (m := { n with mark := mark }) H.out Z1.out (fun hn => nodes_store (k := 2) (u := .int .i64 mark) hn h2 (by omega) rfl (fun a => by simp [ndCells]))
        have S1 := Lib.hid s1
        have S2 := Lib.hid s2
        have hk3 : decide (mark < 0) = false := by simp; omega
        have hk4 : ¬ 2 < mark := by omega
        clear hm h1 h2 hp hk s1 s2
        go_enter Try.func55, Try.ntmps55
        go_wp2_with fail
        refine (has_any H.out a).mono ?_
        rintro e w1 ⟨rfl, rfl⟩
        rw [HQ.out]
        go_wp2_with fail
        go_ret
        exact ⟨rfl, S1.out, S2.out⟩
end Go.Proofs.Ytooalgnppnmeaaa
