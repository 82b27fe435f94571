/- The document's Down. -/
import Derived.Test.YtooalgnppnmeaaaS2
namespace Go.Proofs.Ytooalgnppnmeaaa
open Go.RowKit

def RetRow (w : World) (l : List Int) (e : Ending) (w' : World) : Prop := ∃ v, e = .returned v ∧ RowR w' 1 (fun _ => True) v l.length (ints l) ∧ Kept No w w'

theorem down_any {F : Nat → Prop} {av : Value} {n : Nd} {w : World} (ha : RowR w 1 F av n.args.length (ints n.args)) :
    Calls Try.prog 28 #[ndVal av n] w (RetRow w n.down) := by
  obtain ⟨A, c, rfl⟩ := ha.slice
  have HA := Lib.hid ha
  clear ha
  unfold ndVal
  cases hp : n.pts with
  | true =>
    have hd : n.down = [n.to] := by simp [Nd.down, hp]
    rw [hd]
    have HF : Hid (∀ W : World, Kept No w W → RetRow w [n.to] (.returned (.slice (some ⟨W.heap.size, 0, none⟩) 1 1)) (W.alloc (.cells #[.int .i64 n.to] 3))) :=
      fun W hk => ⟨_, rfl, (RowR.new W 1 1 #[.int .i64 n.to] 3 rfl).mono (fun _ _ _ => trivial), hk.alloc _⟩
    clear hd hp
    go_enter Try.func28, Try.ntmps28
    go_wp2_with fail
    go_ret
    simpa using HF.out _ ((Kept.refl No w).alloc _)
  | false =>
    have hd : n.down = n.args := by simp [Nd.down, hp]
    rw [hd]
    have HF : Hid (∀ W : World, Kept No w W → RetRow w n.args (.returned (.slice A n.args.length c)) W) :=
      fun W hk => ⟨_, rfl, (HA.out.keptNo hk).mono (fun _ _ _ => trivial), hk⟩
    clear hd hp
    go_enter Try.func28, Try.ntmps28
    go_wp2_with fail
    go_ret
    exact HF.out _ ((Kept.refl No w).alloc _)
end Go.Proofs.Ytooalgnppnmeaaa
