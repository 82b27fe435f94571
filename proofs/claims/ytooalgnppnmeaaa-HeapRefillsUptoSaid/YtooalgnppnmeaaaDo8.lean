/- do: the numbers. -/
import Derived.Test.YtooalgnppnmeaaaDo2
namespace Go.Proofs.Ytooalgnppnmeaaa
open Go.RowKit

section
variable {F1 F2 : Nat → Prop} {hb rb : Nat} {room : Int} {ns : List Nd} {w : World}
set_option maxRecDepth 100000 in
set_option maxHeartbeats 2000000 in
theorem do_8 (b : Both w F1 F2 hb rb room ns ns) (hg : Good room ns) (x : Opr) (lv nv : Value) (hx : x.kind = 8) :
    Calls Try.prog 37 #[.pointer (some ⟨hb, 0, none⟩), .pointer (some ⟨rb, 0, none⟩), opVal x lv nv] w (RetDo w F1 F2 hb rb room) := by
  have HB := Lib.hid b
  obtain ⟨kind, n, m, two, l, nodes⟩ := x
  dsimp only [opVal] at hx ⊢
  subst hx
  have HF : Hid (∀ q, RetDo w F1 F2 hb rb room (.returned (.bool true)) ((w.alloc (.cells #[.int .i64 8, .int .i64 n, .int .i64 m, .bool two, lv, nv] 63)).drewN q)) := fun q =>
    RetDo.same (b.keptNo (((Kept.refl No w).alloc _).drewN q)) hg (((Kept.refl _ w).alloc _).drewN q)
  have k0 : Kept No w (w.alloc (.cells #[.int .i64 8, .int .i64 n, .int .i64 m, .bool two, lv, nv] 63)) := (Kept.refl No w).alloc _
  have HB0 := Lib.hid (b.keptNo k0)
  clear b hg k0
  go_enter Try.func37, Try.ntmps37
  go_wp2_with fail
  generalize w.alloc (.cells #[.int .i64 8, .int .i64 n, .int .i64 m, .bool two, lv, nv] 63) = W0 at *
  obtain ⟨A, c, _, _, z0, z1, _, _⟩ := HB0.out.r.open_
  go_quiet (first | (go_at_call 25; exact Calls.quiet_of_same ((room_any (HB0.out.h.keptNo ((Kept.refl No W0).drewN _))).mono fun _ _ h => ⟨h.1, h.2.symm⟩)) | (go_at_call 24; exact Calls.quiet_of_same ((used_any (HB0.out.h.keptNo ((Kept.refl No W0).drewN _))).mono fun _ _ h => ⟨h.1, h.2.symm⟩)))
  go_wp2_with fail
  go_ret
  exact HF.out _
end
end Go.Proofs.Ytooalgnppnmeaaa
