/- The document's heap, read alone: Has, Resolve. -/
import Derived.Test.YtooalgnppnmeaaaRH1
namespace Go.Proofs.Ytooalgnppnmeaaa
open Go.RowKit

/-- A document's heap whose list may be anybody's. -/
def RView (w : World) (hb : Nat) (ns : List Nd) : Prop := ∃ v, w.cell? ⟨hb, 1, none⟩ = some v ∧ hb < w.heap.size ∧ NodesR w (fun _ => True) v ns
theorem RView.keptNo {w w' : World} {hb : Nat} {ns : List Nd} (h : RView w hb ns) (hk : Kept No w w') : RView w' hb ns := by
  obtain ⟨v, h1, h2, h3⟩ := h
  exact ⟨v, (hk.cell (p := ⟨hb, 1, none⟩) h2 (fun h => h)).trans h1, Nat.lt_of_lt_of_le h2 hk.size, h3.keptNo hk⟩
theorem has_view {hb : Nat} {ns : List Nd} {w : World} (h : RView w hb ns) (a : Int) :
    Calls Try.prog 74 #[.pointer (some ⟨hb, 0, none⟩), .int .i64 a] w fun e w' => e = .returned (.bool (inR ns a)) ∧ w = w' := by
  obtain ⟨v, h1, _, h3⟩ := h
  obtain ⟨A, c, rfl⟩ := h3.slice
  clear h3
  by_cases h0 : 0 ≤ a
  · go_enter Try.func74, Try.ntmps74
    go_wp2
    go_ret
    simp [h0, inR]
  · have hd : decide (0 ≤ a) = false := by simpa using h0
    go_enter Try.func74, Try.ntmps74
    go_wp2
    go_ret
    simp [inR]; omega
theorem resolve_view {hb : Nat} {ns : List Nd} {w : World} (h : RView w hb ns) (hA : Acyc ns) (a b : Int) (hi : Is ns a b) :
    Calls Try.prog 64 #[.pointer (some ⟨hb, 0, none⟩), .int .i64 a] w fun e w' => e = .returned (.tuple #[.int .i64 b, .int .i64 0]) ∧ w = w' := by
  obtain ⟨r, hr⟩ := hA
  have H := Lib.hid h
  have HR := Lib.hid hr
  have HI := Lib.hid hi
  have hin : inR ns a = true := by
    cases hi with
    | app h1 _ => exact (ndAt_inR h1).1
    | ptr h1 _ _ => exact (ndAt_inR h1).1
  have HN := Lib.hid hin
  clear h hi hr hin
  obtain ⟨v, z1, _, hn⟩ := H.out
  obtain ⟨A, c, rfl⟩ := hn.slice
  have HO := Lib.hid hn
  clear hn
  go_enter Try.func64, Try.ntmps64
  go_wp2_with fail
  refine (has_view H.out a).mono ?_
  rintro e w1 ⟨rfl, rfl⟩
  rw [HN.out]
  go_wp2_with fail
  go_loop [1] (fun t => ∃ x : Int, t = .int .i64 x ∧ Hid (Is ns x b)) (fun t => r (intOf t))
  case atStart => exact ⟨a, rfl, HI⟩
  case round =>
    obtain ⟨x, rfl, hx⟩ := hrel
    cases hx.out with
    | app h1 h2 =>
      obtain ⟨hr1, hr2⟩ := ndAt_inR h1
      obtain ⟨hr3, hr4⟩ := inR_iff.1 hr1
      obtain ⟨b0, o0, c', av, he, _, _, c0, c1, c2, c3, c4, _⟩ := HO.out.at_ hr2
      injection he with he _ hc
      subst he hc
      rw [h2] at c3
      have hxl : b.toNat < ns.length := by omega
      clear h1 h2 hr2 c0 c1 c2 c4 hr1
      go_wp2_with fail
      go_ret2
      exact ⟨rfl, rfl⟩
    | ptr h1 h2 h3 =>
      rename_i n
      obtain ⟨hr1, hr2⟩ := ndAt_inR h1
      obtain ⟨hr3, hr4⟩ := inR_iff.1 hr1
      obtain ⟨b0, o0, c', av, he, _, _, c0, c1, c2, c3, c4, _⟩ := HO.out.at_ hr2
      injection he with he _ hc
      subst he hc
      rw [h2] at c3
      have hxl : x.toNat < ns.length := by omega
      have hd := HR.out x n h1 n.to (by simp [Nd.down, h2])
      have H3 := Lib.hid h3
      clear h1 h2 h3 hr2 c0 c1 c2 hr1
      go_wp2_with fail
      go_round
      case rel => exact ⟨n.to, rfl, H3⟩
      case measure => simpa [intOf] using hd
end Go.Proofs.Ytooalgnppnmeaaa
